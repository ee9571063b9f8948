/- Tour of the reference: what it returns. -/
import Derived.Test.YtfhlopegmfdkpaaNTour2
namespace Go.Proofs.Ytfhlopegmfdkpaa
open Go Go.RowKit
def castL (l : List Nat) : List Int := l.map fun x : Nat => (x : Int)
theorem castL_len (l : List Nat) : (castL l).length = l.length := by simp [castL]
theorem castL_at {l : List Nat} {i x : Nat} (h : l[i]? = some x) : (castL l)[i]? = some (x : Int) := by unfold castL; rw [List.getElem?_map, h]; rfl
theorem slc_nat {w : World} {B : Nat} {A : Option Addr} {l : List Nat} (h : Slc natEnc 1 w B A l) : Slc intEnc 1 w B A (castL l) := fun i z hz => by
  unfold castL at hz
  rw [List.getElem?_map] at hz
  obtain ⟨x, hx, rfl⟩ := Option.map_eq_some_iff.1 hz
  obtain ⟨b, off, h1, h2, h3⟩ := h i x hx
  exact ⟨b, off, h1, h2, h3⟩
theorem flat_nat : ∀ l : List Nat, l.flatMap natEnc = (castL l).map (Value.int .i64)
  | [] => rfl
  | x :: r => by
    rw [List.flatMap_cons, flat_nat r]
    rfl
theorem own_put {w w' : World} {base b cap n : Nat} {l l' : List Nat} {js : List Value} (h : Own w base 3 1 natEnc (.slice (some ⟨b, 0, none⟩) n cap) l) (hl : l'.length = l.length) (hw : Blk w b 3 (intJ (castL l) js)) (hw' : Blk w' b 3 (intJ (castL l') js)) : Own w' base 3 1 natEnc (.slice (some ⟨b, 0, none⟩) n cap) l' := by
  refine ⟨flat_len (f := natEnc) (n := 1) (fun _ => rfl) l', .inr ?_⟩
  rcases h.2 with ⟨h1, _⟩ | ⟨g, cap', cur, h1, h2, h3, h4, h5, h6, h7⟩
  · cases h1
  · injection h1 with h1 h8 h9
    injection h1 with h1
    injection h1 with h1
    subst h1 h8 h9
    have e : cur = intJ (castL l) js := by
      have h10 : w.heap[b]? = some (Obj.cells (intJ (castL l) js) 3 (0, 0)) := hw
      rw [h3] at h10
      injection h10 with h10
      injection h10
    subst e
    refine ⟨b, cap, _, by rw [hl], h2, hw', by omega, h5, ?_, ?_⟩
    · rw [← h6]
      unfold intJ
      simp [castL_len, hl]
    · rw [flat_nat]
      unfold intJ
      rw [Nat.mul_one, List.take_append_of_le_length (by simp [castL_len])]
      exact List.take_of_length_le (by simp [castL_len])
/-- a new element on its way down -/
def bub (S : List Nat) (p a : Nat) : List Nat := S.take p ++ a :: S.drop p
theorem bub_len {S : List Nat} {p a : Nat} (hp : p ≤ S.length) : (bub S p a).length = S.length + 1 := by
  unfold bub
  rw [List.length_append, List.length_take, List.length_cons, List.length_drop]
  omega
theorem bub_all (S : List Nat) (a : Nat) : bub S S.length a = S ++ [a] := by unfold bub; simp
theorem bub_at {a : Nat} : ∀ {S : List Nat} {p : Nat}, p ≤ S.length → (bub S p a)[p]? = some a
  | S, 0, _ => rfl
  | [], p + 1, h => by simp at h
  | y :: r, p + 1, h => by
    have := bub_at (a := a) (S := r) (p := p) (by simpa using h)
    simpa [bub] using this
theorem bub_prev {a x : Nat} : ∀ {S : List Nat} {q : Nat}, S[q]? = some x → (bub S (q + 1) a)[q]? = some x
  | [], _, h => by simp at h
  | y :: r, 0, h => by simpa [bub] using h
  | y :: r, q + 1, h => by
    have := bub_prev (a := a) (S := r) (q := q) (by simpa using h)
    simpa [bub] using this
theorem bub_step {a x : Nat} : ∀ {S : List Nat} {q : Nat}, S[q]? = some x → ((bub S (q + 1) a).set (q + 1) x).set q a = bub S q a
  | [], _, h => by simp at h
  | y :: r, 0, h => by
    simp at h
    subst h
    rfl
  | y :: r, q + 1, h => by
    have := bub_step (a := a) (S := r) (q := q) (by simpa using h)
    show y :: _ = y :: _
    exact congrArg (y :: ·) this
theorem castL_set (l : List Nat) (i x : Nat) : (castL l).set i (x : Int) = castL (l.set i x) := by unfold castL; rw [List.map_set]
theorem asc_le {key : Nat → Int} {S : List Nat} (h : S.Pairwise fun x y => key x ≤ key y) {j q x y : Nat} (hj : S[j]? = some x) (hq : S[q]? = some y) (hjq : j ≤ q) : key x ≤ key y := by
  by_cases e : j = q
  · subst e
    rw [hj] at hq
    injection hq with hq
    rw [hq]
    exact Int.le_refl _
  · obtain ⟨hj1, hj2⟩ := List.getElem?_eq_some_iff.1 hj
    obtain ⟨hq1, hq2⟩ := List.getElem?_eq_some_iff.1 hq
    have := List.pairwise_iff_getElem.1 h j q hj1 hq1 (by omega)
    rwa [hj2, hq2] at this
theorem ins_bub {key : Nat → Int} {S : List Nat} {p a : Nat} (h : S.Pairwise fun x y => key x ≤ key y) (hp : p ≤ S.length) (h1 : ∀ q x, p = q + 1 → S[q]? = some x → key x ≤ key a) (h2 : ∀ x ∈ S.drop p, key a < key x) : insK key a S = bub S p a := by
  refine insK_split key a S p hp (fun i x hi hx => ?_) (fun x hx => h2 x ?_)
  · obtain ⟨q, rfl⟩ : ∃ q, p = q + 1 := ⟨p - 1, by omega⟩
    have hq : S[q]? = some S[q] := List.getElem?_eq_getElem (by omega)
    have := asc_le h hx hq (by omega)
    have := h1 q _ rfl hq
    omega
  · refine List.mem_of_getElem? (i := 0) ?_
    rw [List.getElem?_drop]
    exact hx
set_option maxRecDepth 100000 in
set_option maxHeartbeats 4000000 in
theorem refTour_any (AJ : Option Addr) (cJ : Nat) (js : List Job) (AN : Option Addr) (cN : Nat) (ns : List Nit) (A : Option Addr) (c : Nat) (pl : List Int) (k : Int) (w : World) (hJ : Slc Job.enc 8 w w.heap.size AJ js) (hN : Slc Nit.enc 8 w w.heap.size AN ns) (hS : Slc intEnc 1 w w.heap.size A pl)
    (hl1 : js.length ≤ 1000) (hl2 : ns.length ≤ 1000) (hl3 : pl.length ≤ 1000) :
    Calls Try.prog 41 #[.slice AJ js.length cJ, .slice AN ns.length cN, .slice A pl.length c, .int .i64 k] w (TourPost js ns pl k w) := by
  by_cases h0 : pErr js ns pl = 0
  · cases hin : inB 0 k ((ns.length : Int) - 1)
    · have HE : Hid (tourE js ns pl k = 2) := by show _ = _; unfold tourE; rw [if_pos h0, hin]; rfl
      have HL : Hid (tourT js ns pl k = []) := by show _ = _; unfold tourT; rw [HE.out]; rfl
      rcases inB_false.1 hin with hk | hk
      · clear hin
        go_enter Try.func41, Try.ntmps41
        go_wp2_with fail
        refine (plans_any AJ cJ js AN cN ns A c pl w hJ hN hS hl1 hl2 hl3).mono ?_
        rintro e W0 ⟨rfl, hB⟩
        rw [h0]
        clear h0
        go_wp2_with fail
        go_ret3
        exact ⟨none, 0, by rw [HL.out, HE.out]; rfl, hB, by rw [HL.out]; exact Slc.nil_⟩
      · have hk2 : (ns.length : Int) ≤ k := by omega
        have hk3 : ¬ k < 0 := by omega
        clear hin hk
        go_enter Try.func41, Try.ntmps41
        go_wp2_with fail
        refine (plans_any AJ cJ js AN cN ns A c pl w hJ hN hS hl1 hl2 hl3).mono ?_
        rintro e W0 ⟨rfl, hB⟩
        rw [h0]
        clear h0
        go_wp2_with fail
        go_ret3
        exact ⟨none, 0, by rw [HL.out, HE.out]; rfl, hB, by rw [HL.out]; exact Slc.nil_⟩
    · have HE : Hid (tourE js ns pl k = 0) := by show _ = _; unfold tourE; rw [if_pos h0, hin]; rfl
      have HL : Hid (tourT js ns pl k = tourL js pl k) := by show _ = _; unfold tourT; rw [if_pos HE.out]
      obtain ⟨p1, p2, _⟩ := pErr_zero h0
      have HOK := hide (jobs_chain (wrong_facts p1).1)
      have HPF := hide (formed_facts p2).1
      obtain ⟨k1, k2⟩ := inB_iff.1 hin
      have hk2 : ¬ (ns.length : Int) ≤ k := by omega
      have hk3 : ¬ k < 0 := by omega
      clear hin p1 p2 k1 k2
      go_enter Try.func41, Try.ntmps41
      go_wp2_with fail
      refine (plans_any AJ cJ js AN cN ns A c pl w hJ hN hS hl1 hl2 hl3).mono ?_
      rintro e W0 ⟨rfl, hB⟩
      rw [h0]
      clear h0
      go_wp2_with fail
      go_loopw [12, 13] (fun x y W => ∃ (i : Nat) (lv : Value), x = lv ∧ y = .int .i64 i ∧ i ≤ pl.length ∧ Own W W0.heap.size 3 1 natEnc lv (sortK (chF js) (idxT pl k i)) ∧ Below W0.heap.size W0 W) (fun _ y _ => pl.length - (intOf y).toNat)
      case atStart => exact ⟨0, _, rfl, rfl, Nat.zero_le _, Own.nil_, Below.refl _ _⟩
      case round =>
        obtain ⟨W, rfl⟩ : ∃ W : World, W = wr := ⟨_, rfl⟩
        obtain ⟨i, _, rfl, rfl, hi, hO, hbi⟩ := hrel
        obtain ⟨lv, rfl⟩ : ∃ v, v = u12 := ⟨_, rfl⟩
        have hBB := hB.trans (hbi.mono hB.size)
        by_cases hlt : i < pl.length
        · obtain ⟨v, b, off, hv, hA, _, d9⟩ := ints_at' (hS.below hBB) hlt
          have hii : (i : Int) < (pl.length : Int) := by omega
          subst hA
          by_cases hvk : v = k
          · have hvk' : (v != k) = false := by simpa using hvk
            have HSS : Hid (sortK (chF js) (idxT pl k (i + 1)) = insK (chF js) i (sortK (chF js) (idxT pl k i))) := by show _ = _; rw [idxT_yes (show pl[i]? = some k by rw [hv, hvk]), sortK_snoc]
            have HASC := hide (sortK_asc (chF js) (idxT pl k i))
            have HSM : Hid (∀ x ∈ sortK (chF js) (idxT pl k i), x < js.length) := fun x hx => by
              rw [← HPF.out]
              have := (idxT_mem.1 ((sortK_perm (chF js) _).subset hx)).1
              omega
            have hSl : (sortK (chF js) (idxT pl k i)).length ≤ 1000 := by rw [sortK_len]; exact Nat.le_trans (idxT_len pl k i) (by omega)
            generalize sortK (chF js) (idxT pl k i) = S at *
            have hbs := hbi.size
            have hll : S.length ≤ 1000000000 := by omega
            clear hv hvk
            go_upto_region 12 with (at_builtin; refine wpList_app _ _ rfl rfl et_ints hO rfl rfl (y := (i : Nat)) rfl rfl rfl hll hbs ?_; intro v' W2 hO2 hb2 hgt2; obtain ⟨A2, c2, rfl, _⟩ := hO2.form fun _ => rfl)
            obtain ⟨g, js7, rfl, hge, G⟩ := own_blk (g := fun x : Nat => Value.int .i64 (x : Int)) hO2 (by simp)
            have hbi2 := hbi.trans hb2
            have HG0 : Hid (Blk W2 g 3 (intJ (castL (S ++ [i])) js7)) := by
              show Blk _ _ _ _
              unfold intJ castL
              rw [List.map_map]
              exact G
            have hlen : (S ++ [i]).length = S.length + 1 := by simp
            rw [hlen] at hO2
            have HOO := hide hO2
            clear hO hbi hb2 hgt2 hO2 G hBB d9 hlen hll
            obtain ⟨n, hn⟩ : ∃ n, S.length = n := ⟨_, rfl⟩
            have hG : Blk W2 g 3 (intJ (castL (bub S n i)) js7) := by rw [← hn, bub_all]; exact HG0.out
            have HDR : Hid (∀ x ∈ S.drop n, chF js i < chF js x) := fun x hx => by rw [← hn, List.drop_length] at hx; cases hx
            have HN := hide hn
            rw [hn] at HOO ⊢
            have hn1 : n ≤ 1000 := by omega
            have e3 : IntKind.i64.wrap (n : Int) = (n : Int) := IntWalk.i64_in _ (by omega)
            clear hn hSl
            go_wp2_with fail
            go_loopw [14] (fun y W' => ∃ (p : Nat), y = .int .i64 p ∧ p ≤ n ∧ Blk W' g 3 (intJ (castL (bub S p i)) js7) ∧ Hid (∀ x ∈ S.drop p, chF js i < chF js x) ∧ Below W0.heap.size W0 W') (fun y _ => (intOf y).toNat)
            case atStart => exact ⟨n, by go_num, Nat.le_refl _, hG, HDR, hbi2⟩
            case round =>
              clear hG HDR hbi2
              obtain ⟨W, rfl⟩ : ∃ W : World, W = wr := ⟨_, rfl⟩
              obtain ⟨p, rfl, hp, hG, HD, hbi⟩ := hrel
              have HPN : Hid (p ≤ S.length) := by show _ ≤ _; rw [HN.out]; exact hp
              by_cases hp0 : p = 0
              · subst hp0
                go_wp2_with fail
                refine wp_region_quiet (C := fun w' => ∃ u : Since W, w' = u.w) (by kernel_rfl) (by kernel_rfl) (Since.start W) ?_
                dsimp only
                repeat (go_big_quiet_step ((fail)))
                refine wpQuiet_nil ?_
                rintro W ⟨⟨_, hb⟩, rfl⟩
                try dsimp only at hb ⊢
                replace hG := hG.below hb hG.lt
                replace hbi := hbi.trans (hb.mono hbi.size)
                clear hb
                go_wp2_with fail
                have hpn := HPN.out
                have hIB : Hid (insK (chF js) i S = bub S 0 i) := ins_bub HASC.out HPN.out (fun q x h => by omega) HD.out
                have hO3 := own_put HOO.out (bub_len (p := 0) (a := i) (by omega) |>.trans (by simp)) HG0.out hG
                clear hG
                go_roundw
                case rel => exact ⟨i + 1, .slice (some ⟨g, 0, none⟩) (n + 1) c2, rfl, by go_num, by omega, by rw [HSS.out, hIB.out]; exact hO3, hbi⟩
                case measure => simp [intOf]; omega
              · obtain ⟨q, rfl⟩ : ∃ q, p = q + 1 := ⟨p - 1, by omega⟩
                clear hp0
                have hqS : q < S.length := by have := HPN.out; omega
                obtain ⟨x, hx⟩ : ∃ x, S[q]? = some x := ⟨_, List.getElem?_eq_getElem hqS⟩
                have hBB := hB.trans (hbi.mono hB.size)
                have hxj := HSM.out x (List.mem_of_getElem? hx)
                have hij : i < js.length := by rw [← HPF.out]; exact hlt
                obtain ⟨yi, b2, off2, hyi, hA2, _, hci⟩ := job_at (hJ.below hBB) hij
                obtain ⟨yx, b3, off3, hyx, hA3, _, hcx⟩ := job_at (hJ.below hBB) hxj
                subst hA2
                obtain ⟨rfl, rfl⟩ : b2 = b3 ∧ off2 = off3 := by simpa using hA3
                have dx := hcx 2 _ rfl
                have di := hci 2 _ rfl
                have f1 := hG.cell_ (q + 1) (intJ_get (castL_at (bub_at HPN.out)))
                have f0 := hG.cell_ q (intJ_get (castL_at (bub_prev hx)))
                have HKI := hide (chF_at hyi)
                have HKX := hide (chF_at hyx)
                have HX := hide hx
                have i0 : (x : Int) < (js.length : Int) := by omega
                have i1 : (i : Int) < (js.length : Int) := by omega
                have i2 : (q : Int) + 1 < (n : Int) + 1 := by omega
                have i3 : (q : Int) < (n : Int) + 1 := by omega
                have i4 : (0 : Int) ≤ (q : Int) + 1 := by omega
                have i5 : (0 : Int) < (q : Int) + 1 := by omega
                have e4 : IntKind.i64.wrap (q : Int) = (q : Int) := IntWalk.i64_in _ (by omega)
                obtain ⟨q1, hq1⟩ : ∃ q1, q1 = q + 1 := ⟨_, rfl⟩
                have y1 : ((q : Int) + 1).toNat = q1 := by omega
                rw [← hq1] at f1
                have HQ1 := hide hq1
                clear hyi hyx hci hcx hx hq1 hBB
                by_cases hc : yi.chain < yx.chain
                · skip
                  go_wp2_with fail
                  refine wp_region_quiet (C := fun w' => ∃ u : Since W, w' = u.w) (by kernel_rfl) (by kernel_rfl) (Since.start W) ?_
                  dsimp only
                  have y_f0 := Since.cell f0
                  have y_f1 := Since.cell f1
                  have y_dx := Since.cell dx
                  have y_di := Since.cell di
                  repeat (go_big_quiet_step ((fail)))
                  refine wpQuiet_nil ?_
                  rintro W ⟨⟨_, hb⟩, rfl⟩
                  try dsimp only at hb ⊢
                  replace f0 : W.cell? _ = _ := y_f0 ⟨W, hb⟩
                  replace f1 : W.cell? _ = _ := y_f1 ⟨W, hb⟩
                  replace dx : W.cell? _ = _ := y_dx ⟨W, hb⟩
                  replace di : W.cell? _ = _ := y_di ⟨W, hb⟩
                  clear y_f0 y_f1 y_dx y_di
                  replace hG := hG.below hb hG.lt
                  replace hbi := hbi.trans (hb.mono hbi.size)
                  clear hb
                  go_wp2_with fail
                  have z1 : W.frozen? ⟨g, q1, none⟩ = false := frozen_of_row W g q1 _ 3 hG
                  have z0 : W.frozen? ⟨g, q, none⟩ = false := frozen_of_row W g q _ 3 hG
                  have hG1 := hG.set_ q1 (Value.int .i64 (x : Int))
                  have hG2 := hG1.set_ q (Value.int .i64 (i : Int))
                  have z2 : (W.setCell ⟨g, q1, none⟩ (Value.int .i64 (x : Int))).cell? ⟨g, q, none⟩ = some (Value.int .i64 (x : Int)) := by
                    refine (World.cell?_setCell_other _ _ _ _ (by intro e; simp only [Addr.mk.injEq] at e; have := HQ1.out; omega)).trans f0
                  have hbi3 : Below W0.heap.size W0 ((W.setCell ⟨g, q1, none⟩ (Value.int .i64 (x : Int))).setCell ⟨g, q, none⟩ (Value.int .i64 (i : Int))).drew := ((hbi.setCell (p := ⟨g, q1, none⟩) hge _).setCell (p := ⟨g, q, none⟩) hge _).drew
                  have hG3 : Blk ((W.setCell ⟨g, q1, none⟩ (Value.int .i64 (x : Int))).setCell ⟨g, q, none⟩ (Value.int .i64 (i : Int))).drew g 3 (intJ (castL (bub S q i)) js7) := by
                    have e1 := HQ1.out
                    subst e1
                    have e2 := bub_len (p := q + 1) (a := i) HPN.out
                    rw [intJ_set (by rw [castL_len]; omega), castL_set, intJ_set (by rw [castL_len, List.length_set]; omega), castL_set, bub_step HX.out] at hG2
                    exact hG2
                  have HD3 : Hid (∀ u ∈ S.drop q, chF js i < chF js u) := fun u hu => by
                    have h9 := HD.out u
                    rw [List.drop_eq_getElem_cons hqS] at hu
                    rcases List.mem_cons.1 hu with rfl | hu
                    · have := HX.out
                      rw [List.getElem?_eq_getElem hqS] at this
                      injection this with this
                      rw [this, HKI.out, HKX.out]; exact hc
                    · exact h9 hu
                  clear hG1 hG2
                  have mixed : Try.prog.follows Departure.mixedOrders = true := by kernel_rfl
                  go_big_region_o
                  all_goals go_wp2
                  go_roundw
                  case rel => exact ⟨q, by go_num, by omega, hG3, HD3, hbi3⟩
                  case measure => simp [intOf]
                · skip
                  go_wp2_with fail
                  refine wp_region_quiet (C := fun w' => ∃ u : Since W, w' = u.w) (by kernel_rfl) (by kernel_rfl) (Since.start W) ?_
                  dsimp only
                  have y_f0 := Since.cell f0
                  have y_f1 := Since.cell f1
                  have y_dx := Since.cell dx
                  have y_di := Since.cell di
                  repeat (go_big_quiet_step ((fail)))
                  refine wpQuiet_nil ?_
                  rintro W ⟨⟨_, hb⟩, rfl⟩
                  try dsimp only at hb ⊢
                  replace f0 : W.cell? _ = _ := y_f0 ⟨W, hb⟩
                  replace f1 : W.cell? _ = _ := y_f1 ⟨W, hb⟩
                  replace dx : W.cell? _ = _ := y_dx ⟨W, hb⟩
                  replace di : W.cell? _ = _ := y_di ⟨W, hb⟩
                  clear y_f0 y_f1 y_dx y_di
                  replace hG := hG.below hb hG.lt
                  replace hbi := hbi.trans (hb.mono hbi.size)
                  clear hb
                  go_wp2_with fail
                  have hIB : Hid (insK (chF js) i S = bub S (q + 1) i) := ins_bub HASC.out HPN.out (fun q' u h hu => by (obtain rfl : q' = q := by omega); rw [HX.out] at hu; injection hu with hu; subst hu; rw [HKI.out, HKX.out]; omega) HD.out
                  have hO3 := own_put HOO.out (bub_len (p := (q + 1)) (a := i) (by omega) |>.trans (by simp)) HG0.out hG
                  clear hG
                  go_roundw
                  case rel => exact ⟨i + 1, .slice (some ⟨g, 0, none⟩) (n + 1) c2, rfl, by go_num, by omega, by rw [HSS.out, hIB.out]; exact hO3, hbi⟩
                  case measure => simp [intOf]; omega
          · have hvk' : (v != k) = true := by simpa using hvk
            have HC := hide (idxT_no hv hvk)
            clear hv hvk
            go_wp2_with fail
            go_roundw
            case rel => exact ⟨i + 1, lv, rfl, by go_num, by omega, by rw [HC.out]; exact hO, hbi⟩
            case measure => simp [intOf]; omega
        · obtain rfl : i = pl.length := by omega
          have HTL := hide (tourL_len js pl k)
          have HLL := hide (idxT_len pl k pl.length)
          have HSL := hide (sortK_len (chF js) (idxT pl k pl.length))
          have HTMEM := hide (fun x (h : x ∈ tourL js pl k) => tourL_mem h)
          have hTT : castL (sortK (chF js) (idxT pl k pl.length)) = tourL js pl k := rfl
          obtain ⟨A2, c2, rfl, S0⟩ := hO.form fun _ => rfl
          have S := slc_nat S0
          rw [hTT] at S
          rw [HSL.out, ← HTL.out]
          have hTl : (tourL js pl k).length ≤ 1000 := by rw [HTL.out]; exact Nat.le_trans HLL.out hl3
          clear hO hTT S0
          generalize tourL js pl k = T at *
          rcases T with _ | ⟨t0, T1⟩
          · go_wp2_with fail
            go_ret3
            exact ⟨none, 0, by rw [HL.out, HE.out]; rfl, hBB, by rw [HL.out]; exact Slc.nil_⟩
          · obtain ⟨T, hT⟩ : ∃ T, T = t0 :: T1 := ⟨_, rfl⟩
            obtain ⟨m, hm⟩ : ∃ m, T1.length = m := ⟨_, rfl⟩
            have HTM : Hid (T.length = m + 1) := by show _ = _; rw [hT, List.length_cons, hm]
            have hm1 : m ≤ 1000 := by rw [List.length_cons] at hTl; omega
            rw [List.length_cons, hm]
            rw [← hT] at S HL HTMEM
            clear hT hm HTL hTl
            have hz : (((m + 1 : Nat) : Int) == 0) = false := by simp; omega
            go_wp2_with fail
            have hTlen := HTM.out
            obtain ⟨u0, b0, o0, hu0, hA0, _, f0⟩ := ints_at' S (show 0 < T.length by omega)
            obtain ⟨u1, b1, o1, hu1, hA1, _, f1⟩ := ints_at' S (show m < T.length by omega)
            subst hA0
            obtain ⟨rfl, rfl⟩ : b0 = b1 ∧ o0 = o1 := by simpa using hA1
            obtain ⟨q0, rfl, hq0, _⟩ := HTMEM.out _ (List.mem_of_getElem? hu0)
            obtain ⟨q1, rfl, hq1, _⟩ := HTMEM.out _ (List.mem_of_getElem? hu1)
            have hj0 : q0 < js.length := by rw [← HPF.out]; exact hq0
            have hj1 : q1 < js.length := by rw [← HPF.out]; exact hq1
            obtain ⟨x, b2, off2, hx, hA2, _, hcx⟩ := job_at (hJ.below hBB) hj0
            obtain ⟨y, b3, off3, hy, hA3, _, hcy⟩ := job_at (hJ.below hBB) hj1
            have HF := hide (far_at hTlen hu0 hu1 hx hy)
            have hxb := HOK.out x (List.mem_of_getElem? hx)
            have hyb := HOK.out y (List.mem_of_getElem? hy)
            have e9 : IntKind.i64.wrap (y.chain - x.chain) = y.chain - x.chain := IntWalk.i64_in _ (by omega)
            subst hA2
            obtain ⟨rfl, rfl⟩ : b2 = b3 ∧ off2 = off3 := by simpa using hA3
            have dx := hcx 2 _ rfl
            have dy := hcy 2 _ rfl
            have i0 : (q0 : Int) < (js.length : Int) := by omega
            have i1 : (q1 : Int) < (js.length : Int) := by omega
            have e3 : IntKind.i64.wrap (m : Int) = (m : Int) := IntWalk.i64_in _ (by omega)
            have e4 : (m : Int) < (m : Int) + 1 := by omega
            simp only [Nat.add_zero] at f0
            clear hx hy hcx hcy hu0 hu1 hTlen hz HTMEM
            go_wp2_with fail
            refine wp_region_quiet (C := fun w' => ∃ u : Since W, w' = u.w) (by kernel_rfl) (by kernel_rfl) (Since.start W) ?_
            dsimp only
            have y_f0 := Since.cell f0
            have y_f1 := Since.cell f1
            have y_dx := Since.cell dx
            have y_dy := Since.cell dy
            repeat (go_big_quiet_step ((fail)))
            refine wpQuiet_nil ?_
            rintro W ⟨⟨_, hb⟩, rfl⟩
            try dsimp only at hb ⊢
            replace f0 : W.cell? _ = _ := y_f0 ⟨W, hb⟩
            replace f1 : W.cell? _ = _ := y_f1 ⟨W, hb⟩
            replace dx : W.cell? _ = _ := y_dx ⟨W, hb⟩
            replace dy : W.cell? _ = _ := y_dy ⟨W, hb⟩
            clear y_f0 y_f1 y_dx y_dy
            replace S := (S.below hb).more hb.size
            replace hBB := hBB.trans (hb.mono hBB.size)
            clear hb
            go_wp2_with fail
            go_ret3
            exact ⟨_, c2, by rw [HL.out, HE.out, HTM.out, HF.out]; rfl, hBB, by rw [HL.out]; exact S⟩
  · have HE : Hid (tourE js ns pl k = pErr js ns pl) := by show _ = _; unfold tourE; rw [if_neg h0]
    have HL : Hid (tourT js ns pl k = []) := by show _ = _; unfold tourT; rw [HE.out, if_neg h0]
    go_enter Try.func41, Try.ntmps41
    go_wp2_with fail
    refine (plans_any AJ cJ js AN cN ns A c pl w hJ hN hS hl1 hl2 hl3).mono ?_
    rintro e W0 ⟨rfl, hB⟩
    generalize pErr js ns pl = E at *
    have h1' : (E != 0) = true := by simp [h0]
    have h0' : (E == 0) = false := by simpa using h0
    go_wp2_with fail
    go_ret3
    exact ⟨none, 0, by rw [HL.out, HE.out]; rfl, hB, by rw [HL.out]; exact Slc.nil_⟩
end Go.Proofs.Ytfhlopegmfdkpaa
