/- Greedy of the reference, and CutGreedy: the walks. -/
import Derived.Test.YtecaaimaeaocbaaDoorKGreedyW
import Derived.Test.YtecaaimaeaocbaaDoorKTogW
import Derived.Test.YtecaaimaeaocbaaDoorKLaw4
namespace Go.Proofs.YtecaaimaeaocbaaDoor
open Go Go.RowKit
theorem shaped_m_ok {L K : Int} {l : List Ask} {pl : List Bat} (h : chkE L K l pl = 0) : pl.length ≤ 1000 ∧ l.length ≤ 1000 ∧ ∀ b ∈ pl, (1 ≤ b.t ∧ b.t ≤ 1000) ∧ b.ps.length = l.length := by
  obtain ⟨h1, h2, h3⟩ := chk_zero h
  refine ⟨shaped_few h2, by have := (validK_iff.1 h1).few; omega, fun b hb => ?_⟩
  obtain ⟨i, hi⟩ := List.getElem?_of_mem hb
  exact shaped_at h2 hi
theorem refFits_n (L K : Int) (A : Option Addr) (c : Nat) (l : List Ask) (AP : Option Addr) (cP n : Nat) (ps : List Int) (w : World) (hS : Slc Ask.enc 2 w w.heap.size A l) (hP : Slc intEnc 1 w w.heap.size AP ps) (hv : VK L K l) (hpl : ps.length = l.length) (hn : ps.length = n) {v : Bool} (h : fitsB L K l ps = v) :
    Calls Tryd.prog 59 #[.agg #[.int .i64 L, .int .i64 K, .slice A l.length c], .slice AP n cP] w fun e w' => e = .returned (.bool v) ∧ Below w.heap.size w w' := by
  subst hn h; exact refKFits_any L K A c l AP cP ps w hS hP hv hpl
theorem queue_cell {l : List Ask} {m : Nat} {x : Int} (h : ((queueG l).map fun x : Nat => (x : Int))[m]? = some x) : ∃ i : Nat, x = (i : Int) ∧ (queueG l)[m]? = some i ∧ i < l.length := by
  rw [List.getElem?_map] at h
  obtain ⟨i, hi, rfl⟩ := Option.map_eq_some_iff.1 h
  exact ⟨i, rfl, hi, queue_mem (List.mem_of_getElem? hi)⟩
/-- where the search for a roll stands: nothing found yet at roll q, or put -/
def GSt (L K : Int) (l : List Ask) (i : Nat) (R : List (List Int)) (d : Bool) (q : Nat) (R' : List (List Int)) : Prop :=
  (d = false → R' = R ∧ q ≤ R.length ∧ putG L K l i R = R.take q ++ putG L K l i (R.drop q)) ∧ (d = true → R' = putG L K l i R) ∧ q ≤ R.length + 1
theorem fits_bump {L K : Int} {l : List Ask} {r : List Int} {i : Nat} (h : ∀ p ∈ bump r i, 0 ≤ p ∧ p ≤ 50) : fitsB L K l (bump r i) = decide (sizeTo K l (bump r i) (bump r i).length ≤ L + K) := by
  unfold fitsB
  rw [okP_iff.2 h, Bool.true_and]
theorem zero_bump {l : List Ask} {i : Nat} (hi : i < l.length) : bump (List.replicate l.length 0) i = (List.replicate l.length 0).set i 1 := bump_at (v := 0) (by rw [List.getElem?_replicate, if_pos hi])
theorem zero_low {l : List Ask} {i : Nat} (hi : i < l.length) : ∀ p ∈ bump (List.replicate l.length 0) i, 0 ≤ p ∧ p ≤ 50 := fun p hp => by
  rw [zero_bump hi] at hp
  rcases List.mem_or_eq_of_mem_set hp with h | h
  · rw [(List.mem_replicate.1 h).2]; omega
  · omega
theorem zero_fits {L K : Int} {l : List Ask} (hv : VK L K l) {i : Nat} (hi : i < l.length) : fitsB L K l (bump (List.replicate l.length 0) i) = true := by
  rw [fits_bump (zero_low hi), decide_eq_true_eq, bump_len, List.length_replicate, zero_bump hi]
  exact fresh_size hv hi
set_option maxRecDepth 100000 in
set_option maxHeartbeats 4000000 in
theorem refGreedy_any (L K : Int) (A : Option Addr) (c : Nat) (l : List Ask) (w : World) (hS : Slc Ask.enc 2 w w.heap.size A l) :
    Calls Tryd.prog 50 #[.agg #[.int .i64 L, .int .i64 K, .slice A l.length c]] w (GreedyPost L K l w) := by
  have hk := Blk.new w 24 #[.int .i64 L, .int .i64 K, .slice A l.length c]
  have hB := (Below.refl w.heap.size w).alloc (Nat.le_refl _) (.cells #[.int .i64 L, .int .i64 K, .slice A l.length c] 24)
  go_enter Tryd.func50, Tryd.ntmps50
  go_upto_region 1 with fail
  generalize w.alloc (.cells #[.int .i64 L, .int .i64 K, .slice A l.length c] 24) = W at *
  have c0 := hk.cell_ 0 rfl
  have c1 := hk.cell_ 1 rfl
  have c2 := hk.cell_ 2 rfl
  obtain ⟨u, hu⟩ : ∃ u, validK L K l = u := ⟨_, rfl⟩
  have HU := hide hu
  clear hu
  go_wp2_with fail
  refine (refKValidB_is L K A c l _ (hS.on hB) HU.out).mono ?_
  rintro e W ⟨rfl, hb⟩
  clear c0 c1 c2
  replace hk := hk.below hb hk.lt
  replace hB := hB.trans (hb.mono hB.size)
  clear hb
  have c0 := hk.cell_ 0 rfl
  have c1 := hk.cell_ 1 rfl
  have c2 := hk.cell_ 2 rfl
  cases u
  case false =>
    have HE : Hid (grE L K l = 40) := by show _ = _; unfold grE; rw [HU.out]; rfl
    have HP : Hid (grP L K l = []) := by show _ = _; unfold grP; rw [HU.out]; rfl
    go_wp2_with fail
    go_ret2
    exact ⟨none, 0, [], by rw [HP.out, HE.out]; rfl, hB, by rw [HP.out]; exact PlanAt.nil_ _⟩
  have HE : Hid (grE L K l = 0) := by show _ = _; unfold grE; rw [HU.out]; rfl
  have HP : Hid (grP L K l = foldB (greedyP L K l)) := by show _ = _; unfold grP; rw [HU.out]; rfl
  have HV := hide (validK_iff.1 HU.out)
  have hl8 := HV.out.few
  have hmk := mk_zeros l.length (by omega)
  go_wp2_with fail
  refine (pieces_any L K A c l _ (hS.on hB) HV.out).mono ?_
  rintro e W ⟨AF, kF, rfl, hb, hF⟩
  clear c0 c1 c2
  replace hk := hk.below hb hk.lt
  replace hB := hB.trans (hb.mono hB.size)
  clear hb
  have c0 := hk.cell_ 0 rfl
  have c1 := hk.cell_ 1 rfl
  have c2 := hk.cell_ 2 rfl
  have hWz := hk.lt
  obtain ⟨W0, hW0⟩ : ∃ X : World, X = W := ⟨_, rfl⟩
  have hL := below_self W0 W hW0
  rw [← hW0] at hWz
  have HF : Hid (Slc intEnc 1 W0 W0.heap.size AF ((queueG l).map fun x : Nat => (x : Int))) := by rw [hW0]; exact hF
  obtain ⟨M, hM⟩ : ∃ M, (queueG l).length = M := ⟨_, rfl⟩
  have hM9 : M ≤ 400 := by rw [← hM]; exact queue_len HV.out
  have HM := hide hM
  have hO : Own W W0.heap.size 73 2 Bt.enc (.slice none 0 0) [] := Own.nil_
  have hR : RollsAt W W0.heap.size [] (greedyR L K l ((queueG l).take 0)) := RollsAt.nil_ _ _
  rw [hM]
  clear hF hW0 hM
  go_wp2_with fail
  clear c0 c1 c2
  go_loopw [4, 6] (fun v y W => ∃ (m : Nat) (os : List Bt), y = .int .i64 m ∧ m ≤ M ∧ Blk W w.heap.size 24 #[.int .i64 L, .int .i64 K, .slice A l.length c] ∧ Own W W0.heap.size 73 2 Bt.enc v os ∧ RollsAt W W0.heap.size os (greedyR L K l ((queueG l).take m)) ∧ Below W0.heap.size W0 W ∧ Below w.heap.size w W) (fun v y _ => M - (intOf y).toNat)
  case atStart => exact ⟨0, [], rfl, Nat.zero_le _, hk, hO, hR, hL, hB⟩
  case round =>
    clear hk hB hO hR hL
    obtain ⟨W, rfl⟩ : ∃ W : World, W = wr := ⟨_, rfl⟩
    obtain ⟨m, os, rfl, hm, hk, hO, hR, hL, hB⟩ := hrel
    by_cases hlt : m < M
    · obtain ⟨i, hqm⟩ : ∃ i, (queueG l)[m]? = some i := ⟨_, List.getElem?_eq_getElem (by rw [HM.out]; exact hlt)⟩
      have hil := queue_mem (List.mem_of_getElem? hqm)
      have HQM := hide hqm
      have HNX := hide (greedy_snoc (L := L) (K := K) (l := l) hqm)
      have HBO : Hid (∀ r ∈ greedyR L K l ((queueG l).take m), ∀ p ∈ bump r i, 0 ≤ p ∧ p ≤ 50) := fun r hr => (bump_ok HV.out hqm hr).2
      obtain ⟨hgi, _, hRl⟩ := greedy_at HV.out (L := L) (K := K) (l := l) m
      have HRL := hide hgi.len
      obtain ⟨R, hRe⟩ : ∃ R, greedyR L K l ((queueG l).take m) = R := ⟨_, rfl⟩
      rw [hRe] at hR HNX HBO HRL hRl
      have hmm : (m : Int) < (M : Int) := by omega
      have hii : (i : Int) < (l.length : Int) := by omega
      clear hqm hgi hRe
      have HST : Hid (GSt L K l i R false 0 R) := ⟨fun _ => ⟨rfl, Nat.zero_le _, putG_step0 R⟩, (fun h => by cases h), Nat.zero_le _⟩
      have c0 := hk.cell_ 0 rfl
      have c1 := hk.cell_ 1 rfl
      have c2 := hk.cell_ 2 rfl
      go_wp2_with fail
      show Code.wp Tryd.prog _ _ _ _
      clear c0 c1 c2
      go_loopw [4, 7, 8] (fun v d y W => ∃ (q : Nat) (b : Bool) (R' : List (List Int)) (os : List Bt), y = .int .i64 q ∧ d = .bool b ∧ Hid (GSt L K l i R b q R') ∧ Blk W w.heap.size 24 #[.int .i64 L, .int .i64 K, .slice A l.length c] ∧ Own W W0.heap.size 73 2 Bt.enc v os ∧ RollsAt W W0.heap.size os R' ∧ Below W0.heap.size W0 W ∧ Below w.heap.size w W) (fun v d y _ => R.length + 2 - (intOf y).toNat)
      case atStart => exact ⟨0, false, R, os, rfl, rfl, HST, hk, hO, hR, hL, hB⟩
      case round =>
        clear hk hB hO hR hL HST
        obtain ⟨W, rfl⟩ : ∃ W : World, W = wr := ⟨_, rfl⟩
        obtain ⟨q, b, R', os, rfl, rfl, HST, hk, hO, hR, hL, hB⟩ := hrel
        have hq1 := HST.out.2.2
        obtain ⟨Ao, co, rfl, _⟩ := hO.form fun _ => rfl
        cases b
        case true =>
          have hR2 : RollsAt W W0.heap.size os (greedyR L K l ((queueG l).take (m + 1))) := by rw [HNX.out, ← HST.out.2.1 rfl]; exact hR
          have c0 := hk.cell_ 0 rfl
          have c1 := hk.cell_ 1 rfl
          have c2 := hk.cell_ 2 rfl
          by_cases hqo : (q : Int) ≤ (os.length : Int)
          · go_wp2_with fail
            go_roundw
            case rel => exact ⟨m + 1, os, by go_num, by omega, hk, hO, hR2, hL, hB⟩
            case measure => simp [intOf]; omega
          · go_wp2_with fail
            go_roundw
            case rel => exact ⟨m + 1, os, by go_num, by omega, hk, hO, hR2, hL, hB⟩
            case measure => simp [intOf]; omega
        case false =>
          obtain ⟨s1, s2, s3⟩ := HST.out.1 rfl
          subst s1
          have hRl2 := hR.len
          have hqo : (q : Int) ≤ (os.length : Int) := by omega
          have HQL := hide s2
          by_cases hql : q < os.length
          · obtain ⟨r, hrq⟩ : ∃ r, R'[q]? = some r := ⟨_, List.getElem?_eq_getElem (by omega)⟩
            have HRL2 : Hid (r.length = l.length) := HRL.out r (List.mem_of_getElem? hrq)
            have HBO1 : Hid (∀ p ∈ bump r i, 0 ≤ p ∧ p ≤ 50) := HBO.out r (List.mem_of_getElem? hrq)
            obtain ⟨R2, hR2⟩ : ∃ X, X = R' := ⟨_, rfl⟩
            have HFIT : Hid (fitsB L K l (bump r i) = true → R2.set q (bump r i) = putG L K l i R') := fun h => by
              rw [fits_bump HBO1.out, decide_eq_true_eq] at h
              rw [hR2]
              exact (putG_here s3 hrq h).symm
            have HNOT : Hid (fitsB L K l (bump r i) = false → R2 = R' ∧ q + 1 ≤ R'.length ∧ putG L K l i R' = R'.take (q + 1) ++ putG L K l i (R'.drop (q + 1))) := fun h => by
              rw [fits_bump HBO1.out, decide_eq_false_iff_not] at h
              exact ⟨hR2, by omega, putG_next s3 hrq h⟩
            have hqne : ((q : Int) == (os.length : Int)) = false := by
              have h9 : (q : Int) ≠ (os.length : Int) := by omega
              simpa using h9
            rw [← hR2] at hR hrq
            clear s3 hR2 hRl2
            have c0 := hk.cell_ 0 rfl
            have c1 := hk.cell_ 1 rfl
            have c2 := hk.cell_ 2 rfl
            go_upto_region 14 with fail
            -- at region 14: os, R2, q, r with hR, hO, hrq, HBO1, HFIT, HNOT; hql
            obtain ⟨g, cg, hog, hge, hG⟩ := hR.at_ hrq
            obtain ⟨gp, js, hAe, hgp, hP⟩ := own_blkF hO (by rintro rfl; simp at hog)
            have hrl := HRL2.out
            obtain ⟨v, hv⟩ : ∃ v, r[i]? = some v := ⟨_, List.getElem?_eq_getElem (by rw [hrl]; exact hil)⟩
            have hbo := HBO1.out
            have hvb : 0 ≤ v + 1 ∧ v + 1 ≤ 50 := by
              rw [bump_at hv] at hbo
              exact hbo (v + 1) (List.mem_of_getElem? (List.getElem?_set_self (by rw [hrl]; exact hil)))
            have HBU := hide (bump_at hv)
            have HVI := hide hv
            have HRQ := hide hrq
            have HOG := hide hog
            have HBL : Hid ((bump r i).length = l.length) := by show _ = _; rw [bump_len, hrl]
            have HBN : Hid ((bump r i).length = r.length) := bump_len r i
            have HIL : Hid (i < (intJ r []).size) := intJ_lt (by rw [hrl]; exact hil)
            have HIR : Hid (i < r.length) := by show _ < _; rw [hrl]; exact hil
            have HP1 : Hid ((os.flatMap Bt.enc ++ js).toArray[q * 2 + 1]? = some (.slice (some ⟨g, 0, none⟩) r.length cg)) := blkF_get (f := Bt.enc) (n := 2) (fun _ => rfl) hog (j := 1) rfl
            have hqq : (q : Int) < (os.length : Int) := by omega
            have hir : (i : Int) < (r.length : Int) := by rw [hrl]; exact hii
            have e6 : IntKind.i64.wrap (v + 1) = v + 1 := IntWalk.i64_in _ (by omega)
            have e7 : IntKind.i64.wrap (v + 1 - 1) = v := by rw [show v + 1 - 1 = v by omega]; exact IntWalk.i64_in _ (by omega)
            have hnpg : gp ≠ g := hP.ne_ hG (by decide)
            have HNPG := hide hnpg
            obtain ⟨f, hf⟩ : ∃ f, fitsB L K l (bump r i) = f := ⟨_, rfl⟩
            have HFB := hide hf
            rw [hf] at HFIT HNOT
            obtain ⟨x, b1, o1, hx, hA1, _, f0⟩ := ints_at' (HF.out.below hL) (k := m) (by rw [List.length_map, HM.out]; exact hlt)
            obtain ⟨i', rfl, hfi, _⟩ := queue_cell hx
            obtain rfl : i' = i := by rw [HQM.out] at hfi; injection hfi with h; exact h.symm
            clear hog hv hbo hrq hnpg hf hx hfi hrl
            subst hAe hA1
            have c0 := hk.cell_ 0 rfl
            have c1 := hk.cell_ 1 rfl
            have c2 := hk.cell_ 2 rfl
            have p1 := hP.cell_ (q * 2 + 1) HP1.out
            have g0 := hG.cell_ i' (intJ_get HVI.out)
            go_wp2_with fail
            refine wp_region_quiet_tail (C := fun w' => ∃ u : Since W, w' = u.w) 13 (by kernel_rfl) (by kernel_rfl) (Since.start W) ?_
            simp only [List.take_succ_cons, List.take_zero, List.drop_succ_cons, List.drop_zero]
            have y_c0 := Since.cell c0
            have y_c1 := Since.cell c1
            have y_c2 := Since.cell c2
            have y_p1 := Since.cell p1
            have y_g0 := Since.cell g0
            have y_f0 := Since.cell f0
            clear c0 c1 c2
            repeat (go_big_quiet_step ((fail)))
            refine wpQuiet_nil ?_
            rintro W ⟨⟨_, hb⟩, rfl⟩
            try dsimp only at hb ⊢
            replace p1 : W.cell? _ = _ := y_p1 ⟨W, hb⟩
            replace g0 : W.cell? _ = _ := y_g0 ⟨W, hb⟩
            replace f0 : W.cell? _ = _ := y_f0 ⟨W, hb⟩
            clear y_c0 y_c1 y_c2 y_p1 y_g0 y_f0
            replace hk := hk.below hb hk.lt
            replace hO := hO.below hb
            replace hR := hR.below hb
            replace hL := hL.trans (hb.mono (by first | exact Nat.le_refl _ | exact hL.size))
            replace hG := hG.below hb hG.lt
            replace hP := hP.below hb hP.lt
            replace hB := hB.trans (hb.mono hB.size)
            clear hb
            have c0 := hk.cell_ 0 rfl
            have c1 := hk.cell_ 1 rfl
            have c2 := hk.cell_ 2 rfl
            refine wpList_store_at rfl 3 _ _ rfl (.int .i64 (v + 1)) hG rfl rfl (by kernel_rfl) rfl HIL.out rfl ?_
            intro W1 hG1 hc1
            -- the store of  into place i of the numbers r (block g); the world W again
            have hgrow : W.grownBy W1 (some g) := ⟨hc1.os, hc1.tape, hc1.output, hc1.size, fun k hk hne => hc1.block k hk fun e => hne (by rw [e])⟩
            have hO1 := own_kept hO hgrow fun b hb he => by injection he with he; exact own_ne_blk hO hG (by decide) b hb he
            have hk1 := hk.chg1 hc1 (by omega)
            have hL1 := hL.trans (hc1.below1 hL.size hge)
            have hB1 := hB.trans (hc1.below1 hB.size (by omega))
            clear hgrow hO hk hL hB hG g0
            have hO := hO1
            have hk := hk1
            have hL := hL1
            have hB := hB1
            clear hO1 hk1 hL1 hB1
            try dsimp only [Act.put]
            replace hP := hP.chg1 hc1 HNPG.out
            have f0 : W1.cell? ⟨b1, o1 + m, none⟩ = some (.int .i64 (i' : Int)) := (hc1.cell1 f0 (by show b1 ≠ g; omega))
            rw [intJ_set HIR.out, ← HBU.out] at hG1
            replace hR := hR.put HOG.out HRQ.out HBN.out hc1 hG1
            have hG := hG1
            clear hc1 hG1 p1 c0 c1 c2
            obtain ⟨W, rfl⟩ : ∃ X : World, X = W1 := ⟨_, rfl⟩
            have T1 := hide (hS.on hB)
            have T2 := hide (intJ_slc hG)
            have c0 := hk.cell_ 0 rfl
            have c1 := hk.cell_ 1 rfl
            have c2 := hk.cell_ 2 rfl
            have p1 := hP.cell_ (q * 2 + 1) HP1.out
            go_wp2_with fail
            refine wp_region_quiet (C := fun w' => ∃ u : Since W, w' = u.w) (by kernel_rfl) (by kernel_rfl) (Since.start W) ?_
            dsimp only
            have y_c0 := Since.cell c0
            have y_c1 := Since.cell c1
            have y_c2 := Since.cell c2
            have y_p1 := Since.cell p1
            have y_f0 := Since.cell f0
            clear c0 c1 c2
            repeat (go_big_quiet_step ((go_at_call 59; exact Since.calls (refFits_n L K A c l (some ⟨g, 0, none⟩) cg r.length (bump r i') _ (Slc.on T1.out (Since.h _)) (Slc.on T2.out (Since.h _)) HV.out HBL.out HBN.out HFB.out))))
            refine wpQuiet_nil ?_
            rintro W ⟨⟨_, hb⟩, rfl⟩
            try dsimp only at hb ⊢
            replace p1 : W.cell? _ = _ := y_p1 ⟨W, hb⟩
            replace f0 : W.cell? _ = _ := y_f0 ⟨W, hb⟩
            clear y_c0 y_c1 y_c2 y_p1 y_f0
            replace hk := hk.below hb hk.lt
            replace hO := hO.below hb
            replace hR := hR.below hb
            replace hL := hL.trans (hb.mono (by first | exact Nat.le_refl _ | exact hL.size))
            replace hG := hG.below hb hG.lt
            replace hP := hP.below hb hP.lt
            replace hB := hB.trans (hb.mono hB.size)
            clear hb
            have c0 := hk.cell_ 0 rfl
            have c1 := hk.cell_ 1 rfl
            have c2 := hk.cell_ 2 rfl
            cases f
            case true =>
              have HG : Hid (GSt L K l i' R' true (q + 1) (R2.set q (bump r i'))) := ⟨(fun h => by cases h), fun _ => HFIT.out rfl, by have := HQL.out; omega⟩
              clear p1 f0 hG hP
              go_wp2_with fail
              go_roundw
              case rel => exact ⟨q + 1, true, _, os, by go_num, rfl, HG, hk, hO, hR, hL, hB⟩
              case measure => have := HQL.out; simp [intOf]; omega
            case false =>
              obtain ⟨n1, n2, n3⟩ := HNOT.out rfl
              subst n1
              have HG : Hid (GSt L K l i' R2 false (q + 1) R2) := ⟨fun _ => ⟨rfl, n2, n3⟩, (fun h => by cases h), by omega⟩
              clear n2 n3
              have HVB : Hid ((bump r i')[i']? = some (v + 1)) := by show _ = _; rw [HBU.out]; exact List.getElem?_set_self HIR.out
              have HIL : Hid (i' < (intJ (bump r i') []).size) := intJ_lt (by rw [HBN.out]; exact HIR.out)
              have hib : (i' : Int) < ((bump r i').length : Int) := by rw [HBN.out]; exact hir
              have g0 := hG.cell_ i' (intJ_get HVB.out)
              go_wp2_with fail
              refine wp_region_quiet_tail (C := fun w' => ∃ u : Since W, w' = u.w) 13 (by kernel_rfl) (by kernel_rfl) (Since.start W) ?_
              simp only [List.take_succ_cons, List.take_zero, List.drop_succ_cons, List.drop_zero]
              have y_c0 := Since.cell c0
              have y_c1 := Since.cell c1
              have y_c2 := Since.cell c2
              have y_p1 := Since.cell p1
              have y_g0 := Since.cell g0
              have y_f0 := Since.cell f0
              clear c0 c1 c2
              repeat (go_big_quiet_step ((fail)))
              refine wpQuiet_nil ?_
              rintro W ⟨⟨_, hb⟩, rfl⟩
              try dsimp only at hb ⊢
              replace p1 : W.cell? _ = _ := y_p1 ⟨W, hb⟩
              replace g0 : W.cell? _ = _ := y_g0 ⟨W, hb⟩
              replace f0 : W.cell? _ = _ := y_f0 ⟨W, hb⟩
              clear y_c0 y_c1 y_c2 y_p1 y_g0 y_f0
              replace hk := hk.below hb hk.lt
              replace hO := hO.below hb
              replace hR := hR.below hb
              replace hL := hL.trans (hb.mono (by first | exact Nat.le_refl _ | exact hL.size))
              replace hG := hG.below hb hG.lt
              replace hP := hP.below hb hP.lt
              replace hB := hB.trans (hb.mono hB.size)
              clear hb
              have c0 := hk.cell_ 0 rfl
              have c1 := hk.cell_ 1 rfl
              have c2 := hk.cell_ 2 rfl
              refine wpList_store_at rfl 3 _ _ rfl (.int .i64 v) hG rfl rfl (by kernel_rfl) rfl HIL.out rfl ?_
              intro W1 hG1 hc1
              -- the store of  into place i of the numbers r (block g); the world W again
              have hgrow : W.grownBy W1 (some g) := ⟨hc1.os, hc1.tape, hc1.output, hc1.size, fun k hk hne => hc1.block k hk fun e => hne (by rw [e])⟩
              have hO1 := own_kept hO hgrow fun b hb he => by injection he with he; exact own_ne_blk hO hG (by decide) b hb he
              have hk1 := hk.chg1 hc1 (by omega)
              have hL1 := hL.trans (hc1.below1 hL.size hge)
              have hB1 := hB.trans (hc1.below1 hB.size (by omega))
              clear hgrow hO hk hL hB hG g0
              have hO := hO1
              have hk := hk1
              have hL := hL1
              have hB := hB1
              clear hO1 hk1 hL1 hB1
              try dsimp only [Act.put]
              rw [intJ_set (by rw [HBN.out]; exact HIR.out), HBU.out, set_back (v + 1) HVI.out] at hG1
              replace hR := hR.put HOG.out (List.getElem?_set_self (List.getElem?_eq_some_iff.1 HRQ.out).1) HBN.out.symm hc1 hG1
              rw [set_back _ HRQ.out] at hR
              have HQ2 := hide (show q ≤ R2.length + 1 by have := HQL.out; omega)
              clear hc1 hG1 hP p1 f0 c0 c1 c2
              go_wp2_with fail
              go_roundw
              case rel => exact ⟨q + 1, false, R2, os, by go_num, rfl, HG, hk, hO, hR, hL, hB⟩
              case measure => have := HQL.out; simp [intOf]; omega
          · have hqe : q = R'.length := by omega
            have hqeq : ((q : Int) == (os.length : Int)) = true := by
              have h9 : (q : Int) = (os.length : Int) := by omega
              simpa using h9
            rw [hqe] at s3
            have HPE := hide (putG_end s3)
            have hz1 : (W.alloc (.cells (intJ (List.replicate l.length 0) []) 3)).heap.size = W.heap.size + 1 := by simp
            have hbA : Below W.heap.size W ((W.alloc (.cells (intJ (List.replicate l.length 0) []) 3)).alloc (.cells #[.int .i64 1, .slice (some ⟨W.heap.size, 0, none⟩) l.length l.length] 73)) := ((Below.refl _ W).alloc (Nat.le_refl _) _).alloc (by omega) _
            have hM := (Blk.new W 3 (intJ (List.replicate l.length 0) [])).alloc (.cells #[.int .i64 1, .slice (some ⟨W.heap.size, 0, none⟩) l.length l.length] 73)
            have hm := Blk.new (W.alloc (.cells (intJ (List.replicate l.length 0) []) 3)) 73 #[.int .i64 1, .slice (some ⟨W.heap.size, 0, none⟩) l.length l.length]
            rw [hz1] at hm
            have HNG : Hid (∀ (j : Nat) b, os[j]? = some b → b.A ≠ some ⟨W.heap.size, 0, none⟩) := fun j b hb he => by
              obtain ⟨g, h1, h2⟩ := hR.lt hb
              rw [h1] at he
              injection he with he
              injection he with he
              omega
            have hLs := hL.size
            have HRL3 := hide hRl2
            have HQE := hide hqe
            have hqR : q ≤ R'.length := by omega
            clear s3 hRl2 hqe
            have c0 := hk.cell_ 0 rfl
            have c1 := hk.cell_ 1 rfl
            have c2 := hk.cell_ 2 rfl
            go_upto_region 14 with (at_builtin; refine wpList_app_own3 (base := W0.heap.size) (f := Bt.enc) (ys := [(⟨1, some ⟨W.heap.size, 0, none⟩, l.length, l.length⟩ : Bt)]) _ _ rfl rfl et_batch ((hO.alloc _).alloc _) rfl rfl (hm.slc1 rfl) rfl (fun _ => rfl) bt_one (by simp <;> omega) (by simp <;> omega) ?_; intro v4 W4 o4 hb4 hg4 hv4)
            have hqe := HQE.out
            have hRl2 := HRL3.out
            have hO2 := (hO.alloc (.cells (intJ (List.replicate l.length 0) []) 3)).alloc (.cells #[.int .i64 1, .slice (some ⟨W.heap.size, 0, none⟩) l.length l.length] 73)
            have hBW4 : Below W0.heap.size W W4 := (hbA.mono hLs).trans hb4
            have hR3 := (hR.below hbA).grown hO2 hg4
            have hM4 := hM.grownv hg4 (own_ne_blk hO2 hM (by decide))
            have hR4 := hR3.snoc (c := l.length) hLs hM4 HNG.out
            rw [List.length_replicate] at hR4
            replace hk := hk.below hBW4 hWz
            replace hL := hL.trans hBW4
            replace hB := hB.trans (hBW4.mono (Nat.le_of_lt hWz))
            obtain ⟨r, hr⟩ : ∃ X, X = List.replicate l.length (0 : Int) := ⟨_, rfl⟩
            obtain ⟨R2, hR2⟩ : ∃ X, X = R' ++ [List.replicate l.length (0 : Int)] := ⟨_, rfl⟩
            obtain ⟨os, hos⟩ : ∃ X, X = os ++ [(⟨1, some ⟨W.heap.size, 0, none⟩, l.length, l.length⟩ : Bt)] := ⟨_, rfl⟩
            have hrq : R2[q]? = some r := by rw [hR2, hqe, hr]; simp
            have HRL2 : Hid (r.length = l.length) := by show _ = _; rw [hr, List.length_replicate]
            have HBO1 : Hid (∀ p ∈ bump r i, 0 ≤ p ∧ p ≤ 50) := by show ∀ p ∈ _, _; rw [hr]; exact zero_low hil
            have HFIT : Hid (fitsB L K l (bump r i) = true → R2.set q (bump r i) = putG L K l i R') := fun _ => by
              rw [hR2, HPE.out, hqe, hr, zero_bump hil]
              simp
            have HNOT : Hid (fitsB L K l (bump r i) = false → R2 = R' ∧ q + 1 ≤ R'.length ∧ putG L K l i R' = R'.take (q + 1) ++ putG L K l i (R'.drop (q + 1))) := fun h => by
              rw [hr, zero_fits HV.out hil] at h
              cases h
            have hql : q < os.length := by rw [hos, List.length_append, List.length_singleton]; omega
            clear hR hO hR3 hO2
            have hR := hR4
            have hO := o4
            rw [← hR2, ← hos] at hR
            rw [← hos] at hO
            clear hqe hr hos hR2 hR4 hM hM4 hm o4 hb4 hg4 hv4 hBW4 hbA hz1 hqo hRl2 c0 c1 c2
            obtain ⟨W, rfl⟩ : ∃ X : World, X = W4 := ⟨_, rfl⟩
            obtain ⟨Ao, co, rfl, _⟩ := hO.form fun _ => rfl
            -- at region 14: os, R2, q, r with hR, hO, hrq, HBO1, HFIT, HNOT; hql
            obtain ⟨g, cg, hog, hge, hG⟩ := hR.at_ hrq
            obtain ⟨gp, js, hAe, hgp, hP⟩ := own_blkF hO (by rintro rfl; simp at hog)
            have hrl := HRL2.out
            obtain ⟨v, hv⟩ : ∃ v, r[i]? = some v := ⟨_, List.getElem?_eq_getElem (by rw [hrl]; exact hil)⟩
            have hbo := HBO1.out
            have hvb : 0 ≤ v + 1 ∧ v + 1 ≤ 50 := by
              rw [bump_at hv] at hbo
              exact hbo (v + 1) (List.mem_of_getElem? (List.getElem?_set_self (by rw [hrl]; exact hil)))
            have HBU := hide (bump_at hv)
            have HVI := hide hv
            have HRQ := hide hrq
            have HOG := hide hog
            have HBL : Hid ((bump r i).length = l.length) := by show _ = _; rw [bump_len, hrl]
            have HBN : Hid ((bump r i).length = r.length) := bump_len r i
            have HIL : Hid (i < (intJ r []).size) := intJ_lt (by rw [hrl]; exact hil)
            have HIR : Hid (i < r.length) := by show _ < _; rw [hrl]; exact hil
            have HP1 : Hid ((os.flatMap Bt.enc ++ js).toArray[q * 2 + 1]? = some (.slice (some ⟨g, 0, none⟩) r.length cg)) := blkF_get (f := Bt.enc) (n := 2) (fun _ => rfl) hog (j := 1) rfl
            have hqq : (q : Int) < (os.length : Int) := by omega
            have hir : (i : Int) < (r.length : Int) := by rw [hrl]; exact hii
            have e6 : IntKind.i64.wrap (v + 1) = v + 1 := IntWalk.i64_in _ (by omega)
            have e7 : IntKind.i64.wrap (v + 1 - 1) = v := by rw [show v + 1 - 1 = v by omega]; exact IntWalk.i64_in _ (by omega)
            have hnpg : gp ≠ g := hP.ne_ hG (by decide)
            have HNPG := hide hnpg
            obtain ⟨f, hf⟩ : ∃ f, fitsB L K l (bump r i) = f := ⟨_, rfl⟩
            have HFB := hide hf
            rw [hf] at HFIT HNOT
            obtain ⟨x, b1, o1, hx, hA1, _, f0⟩ := ints_at' (HF.out.below hL) (k := m) (by rw [List.length_map, HM.out]; exact hlt)
            obtain ⟨i', rfl, hfi, _⟩ := queue_cell hx
            obtain rfl : i' = i := by rw [HQM.out] at hfi; injection hfi with h; exact h.symm
            clear hog hv hbo hrq hnpg hf hx hfi hrl
            subst hAe hA1
            have c0 := hk.cell_ 0 rfl
            have c1 := hk.cell_ 1 rfl
            have c2 := hk.cell_ 2 rfl
            have p1 := hP.cell_ (q * 2 + 1) HP1.out
            have g0 := hG.cell_ i' (intJ_get HVI.out)
            go_wp2_with fail
            refine wp_region_quiet_tail (C := fun w' => ∃ u : Since W, w' = u.w) 13 (by kernel_rfl) (by kernel_rfl) (Since.start W) ?_
            simp only [List.take_succ_cons, List.take_zero, List.drop_succ_cons, List.drop_zero]
            have y_c0 := Since.cell c0
            have y_c1 := Since.cell c1
            have y_c2 := Since.cell c2
            have y_p1 := Since.cell p1
            have y_g0 := Since.cell g0
            have y_f0 := Since.cell f0
            clear c0 c1 c2
            repeat (go_big_quiet_step ((fail)))
            refine wpQuiet_nil ?_
            rintro W ⟨⟨_, hb⟩, rfl⟩
            try dsimp only at hb ⊢
            replace p1 : W.cell? _ = _ := y_p1 ⟨W, hb⟩
            replace g0 : W.cell? _ = _ := y_g0 ⟨W, hb⟩
            replace f0 : W.cell? _ = _ := y_f0 ⟨W, hb⟩
            clear y_c0 y_c1 y_c2 y_p1 y_g0 y_f0
            replace hk := hk.below hb hk.lt
            replace hO := hO.below hb
            replace hR := hR.below hb
            replace hL := hL.trans (hb.mono (by first | exact Nat.le_refl _ | exact hL.size))
            replace hG := hG.below hb hG.lt
            replace hP := hP.below hb hP.lt
            replace hB := hB.trans (hb.mono hB.size)
            clear hb
            have c0 := hk.cell_ 0 rfl
            have c1 := hk.cell_ 1 rfl
            have c2 := hk.cell_ 2 rfl
            refine wpList_store_at rfl 3 _ _ rfl (.int .i64 (v + 1)) hG rfl rfl (by kernel_rfl) rfl HIL.out rfl ?_
            intro W1 hG1 hc1
            -- the store of  into place i of the numbers r (block g); the world W again
            have hgrow : W.grownBy W1 (some g) := ⟨hc1.os, hc1.tape, hc1.output, hc1.size, fun k hk hne => hc1.block k hk fun e => hne (by rw [e])⟩
            have hO1 := own_kept hO hgrow fun b hb he => by injection he with he; exact own_ne_blk hO hG (by decide) b hb he
            have hk1 := hk.chg1 hc1 (by omega)
            have hL1 := hL.trans (hc1.below1 hL.size hge)
            have hB1 := hB.trans (hc1.below1 hB.size (by omega))
            clear hgrow hO hk hL hB hG g0
            have hO := hO1
            have hk := hk1
            have hL := hL1
            have hB := hB1
            clear hO1 hk1 hL1 hB1
            try dsimp only [Act.put]
            replace hP := hP.chg1 hc1 HNPG.out
            have f0 : W1.cell? ⟨b1, o1 + m, none⟩ = some (.int .i64 (i' : Int)) := (hc1.cell1 f0 (by show b1 ≠ g; omega))
            rw [intJ_set HIR.out, ← HBU.out] at hG1
            replace hR := hR.put HOG.out HRQ.out HBN.out hc1 hG1
            have hG := hG1
            clear hc1 hG1 p1 c0 c1 c2
            obtain ⟨W, rfl⟩ : ∃ X : World, X = W1 := ⟨_, rfl⟩
            have T1 := hide (hS.on hB)
            have T2 := hide (intJ_slc hG)
            have c0 := hk.cell_ 0 rfl
            have c1 := hk.cell_ 1 rfl
            have c2 := hk.cell_ 2 rfl
            have p1 := hP.cell_ (q * 2 + 1) HP1.out
            go_wp2_with fail
            refine wp_region_quiet (C := fun w' => ∃ u : Since W, w' = u.w) (by kernel_rfl) (by kernel_rfl) (Since.start W) ?_
            dsimp only
            have y_c0 := Since.cell c0
            have y_c1 := Since.cell c1
            have y_c2 := Since.cell c2
            have y_p1 := Since.cell p1
            have y_f0 := Since.cell f0
            clear c0 c1 c2
            repeat (go_big_quiet_step ((go_at_call 59; exact Since.calls (refFits_n L K A c l (some ⟨g, 0, none⟩) cg r.length (bump r i') _ (Slc.on T1.out (Since.h _)) (Slc.on T2.out (Since.h _)) HV.out HBL.out HBN.out HFB.out))))
            refine wpQuiet_nil ?_
            rintro W ⟨⟨_, hb⟩, rfl⟩
            try dsimp only at hb ⊢
            replace p1 : W.cell? _ = _ := y_p1 ⟨W, hb⟩
            replace f0 : W.cell? _ = _ := y_f0 ⟨W, hb⟩
            clear y_c0 y_c1 y_c2 y_p1 y_f0
            replace hk := hk.below hb hk.lt
            replace hO := hO.below hb
            replace hR := hR.below hb
            replace hL := hL.trans (hb.mono (by first | exact Nat.le_refl _ | exact hL.size))
            replace hG := hG.below hb hG.lt
            replace hP := hP.below hb hP.lt
            replace hB := hB.trans (hb.mono hB.size)
            clear hb
            have c0 := hk.cell_ 0 rfl
            have c1 := hk.cell_ 1 rfl
            have c2 := hk.cell_ 2 rfl
            cases f
            case true =>
              have HG : Hid (GSt L K l i' R' true (q + 1) (R2.set q (bump r i'))) := ⟨(fun h => by cases h), fun _ => HFIT.out rfl, by have := HQL.out; omega⟩
              clear p1 f0 hG hP
              go_wp2_with fail
              go_roundw
              case rel => exact ⟨q + 1, true, _, os, by go_num, rfl, HG, hk, hO, hR, hL, hB⟩
              case measure => have := HQL.out; simp [intOf]; omega
            case false =>
              obtain ⟨n1, n2, n3⟩ := HNOT.out rfl
              subst n1
              have HG : Hid (GSt L K l i' R2 false (q + 1) R2) := ⟨fun _ => ⟨rfl, n2, n3⟩, (fun h => by cases h), by omega⟩
              clear n2 n3
              have HVB : Hid ((bump r i')[i']? = some (v + 1)) := by show _ = _; rw [HBU.out]; exact List.getElem?_set_self HIR.out
              have HIL : Hid (i' < (intJ (bump r i') []).size) := intJ_lt (by rw [HBN.out]; exact HIR.out)
              have hib : (i' : Int) < ((bump r i').length : Int) := by rw [HBN.out]; exact hir
              have g0 := hG.cell_ i' (intJ_get HVB.out)
              go_wp2_with fail
              refine wp_region_quiet_tail (C := fun w' => ∃ u : Since W, w' = u.w) 13 (by kernel_rfl) (by kernel_rfl) (Since.start W) ?_
              simp only [List.take_succ_cons, List.take_zero, List.drop_succ_cons, List.drop_zero]
              have y_c0 := Since.cell c0
              have y_c1 := Since.cell c1
              have y_c2 := Since.cell c2
              have y_p1 := Since.cell p1
              have y_g0 := Since.cell g0
              have y_f0 := Since.cell f0
              clear c0 c1 c2
              repeat (go_big_quiet_step ((fail)))
              refine wpQuiet_nil ?_
              rintro W ⟨⟨_, hb⟩, rfl⟩
              try dsimp only at hb ⊢
              replace p1 : W.cell? _ = _ := y_p1 ⟨W, hb⟩
              replace g0 : W.cell? _ = _ := y_g0 ⟨W, hb⟩
              replace f0 : W.cell? _ = _ := y_f0 ⟨W, hb⟩
              clear y_c0 y_c1 y_c2 y_p1 y_g0 y_f0
              replace hk := hk.below hb hk.lt
              replace hO := hO.below hb
              replace hR := hR.below hb
              replace hL := hL.trans (hb.mono (by first | exact Nat.le_refl _ | exact hL.size))
              replace hG := hG.below hb hG.lt
              replace hP := hP.below hb hP.lt
              replace hB := hB.trans (hb.mono hB.size)
              clear hb
              have c0 := hk.cell_ 0 rfl
              have c1 := hk.cell_ 1 rfl
              have c2 := hk.cell_ 2 rfl
              refine wpList_store_at rfl 3 _ _ rfl (.int .i64 v) hG rfl rfl (by kernel_rfl) rfl HIL.out rfl ?_
              intro W1 hG1 hc1
              -- the store of  into place i of the numbers r (block g); the world W again
              have hgrow : W.grownBy W1 (some g) := ⟨hc1.os, hc1.tape, hc1.output, hc1.size, fun k hk hne => hc1.block k hk fun e => hne (by rw [e])⟩
              have hO1 := own_kept hO hgrow fun b hb he => by injection he with he; exact own_ne_blk hO hG (by decide) b hb he
              have hk1 := hk.chg1 hc1 (by omega)
              have hL1 := hL.trans (hc1.below1 hL.size hge)
              have hB1 := hB.trans (hc1.below1 hB.size (by omega))
              clear hgrow hO hk hL hB hG g0
              have hO := hO1
              have hk := hk1
              have hL := hL1
              have hB := hB1
              clear hO1 hk1 hL1 hB1
              try dsimp only [Act.put]
              rw [intJ_set (by rw [HBN.out]; exact HIR.out), HBU.out, set_back (v + 1) HVI.out] at hG1
              replace hR := hR.put HOG.out (List.getElem?_set_self (List.getElem?_eq_some_iff.1 HRQ.out).1) HBN.out.symm hc1 hG1
              rw [set_back _ HRQ.out] at hR
              have HQ2 := hide (show q ≤ R2.length + 1 by have := HQL.out; omega)
              clear hc1 hG1 hP p1 f0 c0 c1 c2
              go_wp2_with fail
              go_roundw
              case rel => exact ⟨q + 1, false, R2, os, by go_num, rfl, HG, hk, hO, hR, hL, hB⟩
              case measure => have := HQL.out; simp [intOf]; omega
    · obtain rfl : m = M := by omega
      have hQF : (queueG l).take m = queueG l := by rw [← HM.out, List.take_length]
      rw [hQF] at hR
      obtain ⟨Ao, co, rfl, hSo⟩ := hO.form fun _ => rfl
      have hPl : PlanAt W Ao os (greedyP L K l) := hR.plan hSo
      have hlen := hPl.len
      have HCK := hide (shaped_m_ok (greedy_chk HU.out))
      rw [hlen]
      clear hO hR hSo hQF hlen
      have c0 := hk.cell_ 0 rfl
      have c1 := hk.cell_ 1 rfl
      have c2 := hk.cell_ 2 rfl
      go_wp2_with fail
      refine (together_any Ao co os (greedyP L K l) l.length _ hPl HCK.out.1 HCK.out.2.1 HCK.out.2.2).mono ?_
      rintro e W2 ⟨A2, k2, os2, rfl, hb2, hQ⟩
      have hB2 := hB.trans (hb2.mono hB.size)
      clear hk hB hL hb2 hPl c0 c1 c2
      go_wp2_with fail
      go_ret2
      exact ⟨A2, k2, os2, by rw [HP.out, HE.out]; rfl, hB2, by rw [HP.out]; exact hQ⟩
theorem grP_small {L K : Int} {l : List Ask} : (grP L K l).length ≤ 100000 ∧ ∀ b ∈ grP L K l, b.ps.length ≤ 100000 := by
  cases h : validK L K l
  · have e : grP L K l = [] := by unfold grP; rw [h]; rfl
    rw [e]
    exact ⟨by simp, fun b hb => by cases hb⟩
  · obtain ⟨h1, h2⟩ := canon_ok (greedy_right h)
    exact ⟨by omega, fun b hb => by have := (h2 b hb).2.1; omega⟩
set_option maxRecDepth 100000 in
set_option maxHeartbeats 2000000 in
theorem greedy_walk (L K : Int) (A : Option Addr) (c : Nat) (l : List Ask) (w : World) (hS : Slc Ask.enc 2 w w.heap.size A l) :
    Calls Tryd.prog 15 #[.agg #[.int .i64 L, .int .i64 K, .slice A l.length c]] w fun e w' => e = .returned (.bool true) ∧ Below w.heap.size w w' := by
  have hk := Blk.new w 24 #[.int .i64 L, .int .i64 K, .slice A l.length c]
  have hB := (Below.refl w.heap.size w).alloc (Nat.le_refl _) (.cells #[.int .i64 L, .int .i64 K, .slice A l.length c] 24)
  go_enter Tryd.func15, Tryd.ntmps15
  go_upto_region 1 with fail
  generalize w.alloc (.cells #[.int .i64 L, .int .i64 K, .slice A l.length c] 24) = W at *
  have c0 := hk.cell_ 0 rfl
  have c1 := hk.cell_ 1 rfl
  have c2 := hk.cell_ 2 rfl
  obtain ⟨v, hv⟩ : ∃ v, wideP l.length [] = v := ⟨_, rfl⟩
  have HV := hide hv
  clear hv
  go_wp2_with fail
  refine (wide_is L K A c l none 0 0 [] _ Slc.nil_ rfl HV.out).mono ?_
  rintro e W ⟨rfl, hb⟩
  clear c0 c1 c2
  replace hk := hk.below hb hk.lt
  replace hB := hB.trans (hb.mono hB.size)
  clear hb
  have c0 := hk.cell_ 0 rfl
  have c1 := hk.cell_ 1 rfl
  have c2 := hk.cell_ 2 rfl
  cases v
  case true =>
    go_wp2_with fail
    refine (kawake_any _).mono ?_
    rintro e W ⟨rfl, hb⟩
    clear c0 c1 c2
    replace hk := hk.below hb hk.lt
    replace hB := hB.trans (hb.mono hB.size)
    clear hb
    have c0 := hk.cell_ 0 rfl
    have c1 := hk.cell_ 1 rfl
    have c2 := hk.cell_ 2 rfl
    go_wp2_with fail
    go_ret
    exact ⟨rfl, hB⟩
  have HSM := hide (grP_small (L := L) (K := K) (l := l))
  go_wp2_with fail
  refine (greedy_any L K A c l _ (hS.on hB)).mono ?_
  rintro e W ⟨A2, k2, os2, rfl, hb, hQ2⟩
  clear c0 c1 c2
  replace hk := hk.below hb hk.lt
  replace hB := hB.trans (hb.mono hB.size)
  clear hb
  have c0 := hk.cell_ 0 rfl
  have c1 := hk.cell_ 1 rfl
  have c2 := hk.cell_ 2 rfl
  go_wp2_with fail
  refine (refGreedy_any L K A c l _ (hS.on hB)).mono ?_
  rintro e W ⟨A3, k3, os3, rfl, hb, hQ3⟩
  clear c0 c1 c2
  replace hk := hk.below hb hk.lt
  replace hQ2 := PlanAt.on hQ2 hb
  replace hB := hB.trans (hb.mono hB.size)
  clear hb
  have c0 := hk.cell_ 0 rfl
  have c1 := hk.cell_ 1 rfl
  have c2 := hk.cell_ 2 rfl
  obtain ⟨P, hP⟩ : ∃ P, grP L K l = P := ⟨_, rfl⟩
  have HP := hide hP
  rw [hP] at hQ2 hQ3 HSM ⊢
  clear hP
  cases hk0 : validK L K l
  case false =>
    have hE : grE L K l = 40 := by unfold grE; rw [hk0]; rfl
    rw [hE]
    clear hE hk0
    go_wp2_with fail
    refine (samePlan_any A2 k2 os2 A3 k3 os3 P _ hQ2 hQ3 HSM.out.1 HSM.out.2).mono ?_
    rintro e W ⟨rfl, hb⟩
    clear c0 c1 c2
    replace hk := hk.below hb hk.lt
    replace hQ2 := PlanAt.on hQ2 hb
    replace hQ3 := PlanAt.on hQ3 hb
    replace hB := hB.trans (hb.mono hB.size)
    clear hb
    have c0 := hk.cell_ 0 rfl
    have c1 := hk.cell_ 1 rfl
    have c2 := hk.cell_ 2 rfl
    go_wp2_with fail
    refine (kawake_any _).mono ?_
    rintro e W ⟨rfl, hb⟩
    clear c0 c1 c2
    replace hk := hk.below hb hk.lt
    replace hQ2 := PlanAt.on hQ2 hb
    replace hQ3 := PlanAt.on hQ3 hb
    replace hB := hB.trans (hb.mono hB.size)
    clear hb
    have c0 := hk.cell_ 0 rfl
    have c1 := hk.cell_ 1 rfl
    have c2 := hk.cell_ 2 rfl
    go_wp2_with fail
    go_ret
    exact ⟨rfl, hB⟩
  case true =>
    have hE : grE L K l = 0 := by unfold grE; rw [hk0]; rfl
    have HC : Hid (chkE L K l P = 0) := by show _ = _; rw [← HP.out]; exact greedy_right hk0
    rw [hE]
    clear hE hk0
    go_wp2_with fail
    refine (samePlan_any A2 k2 os2 A3 k3 os3 P _ hQ2 hQ3 HSM.out.1 HSM.out.2).mono ?_
    rintro e W ⟨rfl, hb⟩
    clear c0 c1 c2
    replace hk := hk.below hb hk.lt
    replace hQ2 := PlanAt.on hQ2 hb
    replace hQ3 := PlanAt.on hQ3 hb
    replace hB := hB.trans (hb.mono hB.size)
    clear hb
    have c0 := hk.cell_ 0 rfl
    have c1 := hk.cell_ 1 rfl
    have c2 := hk.cell_ 2 rfl
    go_wp2_with fail
    refine (check_is L K A c l A2 k2 os2 P _ (hS.on hB) hQ2 HSM.out.1 HC.out).mono ?_
    rintro e W ⟨rfl, hb⟩
    clear c0 c1 c2
    replace hk := hk.below hb hk.lt
    replace hQ2 := PlanAt.on hQ2 hb
    replace hQ3 := PlanAt.on hQ3 hb
    replace hB := hB.trans (hb.mono hB.size)
    clear hb
    have c0 := hk.cell_ 0 rfl
    have c1 := hk.cell_ 1 rfl
    have c2 := hk.cell_ 2 rfl
    go_wp2_with fail
    refine (kawake_any _).mono ?_
    rintro e W ⟨rfl, hb⟩
    clear c0 c1 c2
    replace hk := hk.below hb hk.lt
    replace hQ2 := PlanAt.on hQ2 hb
    replace hQ3 := PlanAt.on hQ3 hb
    replace hB := hB.trans (hb.mono hB.size)
    clear hb
    have c0 := hk.cell_ 0 rfl
    have c1 := hk.cell_ 1 rfl
    have c2 := hk.cell_ 2 rfl
    go_wp2_with fail
    go_ret
    exact ⟨rfl, hB⟩
end Go.Proofs.YtecaaimaeaocbaaDoor
