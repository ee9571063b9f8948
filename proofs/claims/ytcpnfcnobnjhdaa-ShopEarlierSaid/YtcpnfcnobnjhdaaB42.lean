/- Parts of the proofs of this seat: ShopEarlier. Each part says what it proves; no condition beyond those stated there. -/
import Derived.Test.YtcpnfcnobnjhdaaB37
import Derived.Test.YtcpnfcnobnjhdaaB40
import Derived.Test.YtcpnfcnobnjhdaaB41

/- The law ShopEarlier: the walk. -/
namespace Go.Proofs.Ytcpnfcnobnjhdaa
open Go.RowKit
theorem slc_keys {w : World} {B : Nat} {A : Option Addr} {l R : List At} (hs : Slc AP 2 w B A l) (h : l.map key = R.map key) : Slc AP 2 w B A R := fun i b hb => by
  obtain ⟨a, ha, e1, e2, _⟩ := keys_get h.symm hb
  have : AP b = AP a := by unfold AP; rw [e1, e2]
  rw [this]
  exact hs i a ha
theorem v3' (p : Shop) (pl : List (List Int)) : V3 (judgeF p pl) = .tuple #[.int .i64 (judgeF p pl).1, .int .i64 (judgeF p pl).2.1, .int .i64 (judgeF p pl).2.2] := rfl
theorem apiOrder_n (s : Sh) (A : Option Addr) (c n : Nat) (pl : List (List Int)) (mc : Int) (w : World) (hn : pl.length = n) (hS : ShAt w w.heap.size s) (hvB : validShop s.p = true) (hP : Plan w w.heap.size A pl) (hf : PFits pl) :
    Calls Try.prog 40 #[.agg #[.int .i64 s.p.op, .int .i64 s.p.cl, .slice s.aH s.p.hol.length s.cH, .int .i64 s.p.mach, .slice s.aS s.p.setup.length s.cS, .slice s.aJ s.p.jobs.length s.cJ], .slice A n c, .int .i64 mc] w fun e w' => ∃ A' c', e = .returned (.tuple #[.slice A' (ordL s.p pl mc).length c', .int .i64 (ordE s.p pl mc)]) ∧ Below w.heap.size w w' ∧ Slc AP 2 w' w'.heap.size A' (ordL s.p pl mc) := by
  subst hn; exact apiOrder_any s A c pl mc w hS hvB hP hf
set_option maxRecDepth 200000 in
set_option maxHeartbeats 4000000 in
theorem earlier_walk (s : Sh) (A : Option Addr) (c : Nat) (pl : List (List Int)) (w : World) (hS : ShAt w w.heap.size s) (hf : Fits s.p) (hP : Plan w w.heap.size A pl) (hpf : PFits pl) :
    Calls Try.prog 13 #[.agg #[.int .i64 s.p.op, .int .i64 s.p.cl, .slice s.aH s.p.hol.length s.cH, .int .i64 s.p.mach, .slice s.aS s.p.setup.length s.cS, .slice s.aJ s.p.jobs.length s.cJ], .slice A pl.length c] w fun e w' => e = .returned (.bool true) ∧ Below w.heap.size w w' := by
  have hk := Blk.new w 25 #[.int .i64 s.p.op, .int .i64 s.p.cl, .slice s.aH s.p.hol.length s.cH, .int .i64 s.p.mach, .slice s.aS s.p.setup.length s.cS, .slice s.aJ s.p.jobs.length s.cJ]
  have hB := (Below.refl w.heap.size w).alloc (Nat.le_refl _) (.cells #[.int .i64 s.p.op, .int .i64 s.p.cl, .slice s.aH s.p.hol.length s.cH, .int .i64 s.p.mach, .slice s.aS s.p.setup.length s.cS, .slice s.aJ s.p.jobs.length s.cJ] 25)
  go_enter Try.func13, Try.ntmps13
  go_wp2_with fail
  generalize w.alloc (.cells #[.int .i64 s.p.op, .int .i64 s.p.cl, .slice s.aH s.p.hol.length s.cH, .int .i64 s.p.mach, .slice s.aS s.p.setup.length s.cS, .slice s.aJ s.p.jobs.length s.cJ] 25) = W at *
  have c0 := hk.cell_ 0 rfl
  have c1 := hk.cell_ 1 rfl
  have c2 := hk.cell_ 2 rfl
  have c3 := hk.cell_ 3 rfl
  have c4 := hk.cell_ 4 rfl
  have c5 := hk.cell_ 5 rfl
  go_wp2_with fail
  refine (long_any s _ (hS.on hB) hf.h1 hf.h2 hf.h3 hf.h4).mono ?_
  rintro e W ⟨rfl, hb⟩
  clear c0 c1 c2 c3 c4 c5
  replace hk := hk.below hb hk.lt
  replace hB := hB.trans (hb.mono hB.size)
  clear hb
  have c0 := hk.cell_ 0 rfl
  have c1 := hk.cell_ 1 rfl
  have c2 := hk.cell_ 2 rfl
  have c3 := hk.cell_ 3 rfl
  have c4 := hk.cell_ 4 rfl
  have c5 := hk.cell_ 5 rfl
  cases hl : longB s.p
  case true =>
    go_wp2_with fail
    refine (first_any _).mono ?_
    rintro e W ⟨rfl, hb⟩
    clear c0 c1 c2 c3 c4 c5
    replace hk := hk.below hb hk.lt
    replace hB := hB.trans (hb.mono hB.size)
    clear hb
    have c0 := hk.cell_ 0 rfl
    have c1 := hk.cell_ 1 rfl
    have c2 := hk.cell_ 2 rfl
    have c3 := hk.cell_ 3 rfl
    have c4 := hk.cell_ 4 rfl
    have c5 := hk.cell_ 5 rfl
    go_wp2_with fail
    go_ret
    exact ⟨rfl, hB⟩
  go_wp2_with fail
  refine (wide_any A c pl _ (hP.on hB) hpf).mono ?_
  rintro e W ⟨rfl, hb⟩
  clear c0 c1 c2 c3 c4 c5
  replace hk := hk.below hb hk.lt
  replace hB := hB.trans (hb.mono hB.size)
  clear hb
  have c0 := hk.cell_ 0 rfl
  have c1 := hk.cell_ 1 rfl
  have c2 := hk.cell_ 2 rfl
  have c3 := hk.cell_ 3 rfl
  have c4 := hk.cell_ 4 rfl
  have c5 := hk.cell_ 5 rfl
  cases hw : wideB pl
  case true =>
    go_wp2_with fail
    refine (first_any _).mono ?_
    rintro e W ⟨rfl, hb⟩
    clear c0 c1 c2 c3 c4 c5
    replace hk := hk.below hb hk.lt
    replace hB := hB.trans (hb.mono hB.size)
    clear hb
    have c0 := hk.cell_ 0 rfl
    have c1 := hk.cell_ 1 rfl
    have c2 := hk.cell_ 2 rfl
    have c3 := hk.cell_ 3 rfl
    have c4 := hk.cell_ 4 rfl
    have c5 := hk.cell_ 5 rfl
    go_wp2_with fail
    go_ret
    exact ⟨rfl, hB⟩
  go_wp2_with fail
  refine (refValid_any s _ (hS.on hB) hf.h1 hf.h2 hf.h3 hf.h4).mono ?_
  rintro e W ⟨rfl, hb⟩
  clear c0 c1 c2 c3 c4 c5
  replace hk := hk.below hb hk.lt
  replace hB := hB.trans (hb.mono hB.size)
  clear hb
  have c0 := hk.cell_ 0 rfl
  have c1 := hk.cell_ 1 rfl
  have c2 := hk.cell_ 2 rfl
  have c3 := hk.cell_ 3 rfl
  have c4 := hk.cell_ 4 rfl
  have c5 := hk.cell_ 5 rfl
  cases hvB : validShop s.p
  case false =>
    go_wp2_with fail
    refine (first_any _).mono ?_
    rintro e W ⟨rfl, hb⟩
    clear c0 c1 c2 c3 c4 c5
    replace hk := hk.below hb hk.lt
    replace hB := hB.trans (hb.mono hB.size)
    clear hb
    have c0 := hk.cell_ 0 rfl
    have c1 := hk.cell_ 1 rfl
    have c2 := hk.cell_ 2 rfl
    have c3 := hk.cell_ 3 rfl
    have c4 := hk.cell_ 4 rfl
    have c5 := hk.cell_ 5 rfl
    go_wp2_with fail
    go_ret
    exact ⟨rfl, hB⟩
  have hv := valid_facts hvB
  have HV3 := hide (v3' s.p)
  have hm1 := hv.mach1
  have hm6 := hv.mach6
  go_wp2_with fail
  refine (refJudge_any s A c pl _ (hS.on hB) hv (hP.on hB) hpf).mono ?_
  rintro e W ⟨rfl, hb⟩
  clear c0 c1 c2 c3 c4 c5
  replace hk := hk.below hb hk.lt
  replace hB := hB.trans (hb.mono hB.size)
  clear hb
  have c0 := hk.cell_ 0 rfl
  have c1 := hk.cell_ 1 rfl
  have c2 := hk.cell_ 2 rfl
  have c3 := hk.cell_ 3 rfl
  have c4 := hk.cell_ 4 rfl
  have c5 := hk.cell_ 5 rfl
  rw [HV3.out]
  by_cases hz : (judgeF s.p pl).2.2 = 0
  · have hsh := shaped_facts (judge_shaped hz)
    have HSH := hide hsh
    have hlen12 : pl.length ≤ 12 := by have := hsh.len; have := hv.jobn; omega
    have HPJ := hide (pull_judge hv hz)
    have HPS := hide (pull_right hv hz).shape
    have HPF := hide (fits_of hv HPS.out)
    have HPV := hide (show pullV s.p pl = pullF s.p pl by unfold pullV; rw [if_pos hz])
    have HPV2 := hide (show pullV s.p (pullF s.p pl) = pullF s.p pl by unfold pullV; rw [if_pos HPJ.out]; exact pull_pull hv hz)
    have HAT := hide (fun (j k : Nat) (st : List Step) (x : Step) (h1 : s.p.jobs[j]? = some st) (h2 : st[k]? = some x) => pull_at hv hz h1 h2)
    have HOS := hide (fun m => order_same hv hz m)
    have HLQ : Hid ((pullF s.p pl).length = pl.length) := by show _ = _; rw [HPS.out.len, hsh.len]
    have HZ := hide hz
    rw [HZ.out]
    clear hz hsh
    go_wp2_with fail
    refine (pull_any s A c pl _ (hS.on hB) hvB (hP.on hB) hpf).mono ?_
    rintro e W9 ⟨A1, k1, rfl, hb, hP1⟩
    obtain ⟨W, rfl⟩ : ∃ W : World, W = W9 := ⟨_, rfl⟩
    clear c0 c1 c2 c3 c4 c5
    replace hk := hk.below hb hk.lt
    replace hB := hB.trans (hb.mono hB.size)
    clear hb
    have c0 := hk.cell_ 0 rfl
    have c1 := hk.cell_ 1 rfl
    have c2 := hk.cell_ 2 rfl
    have c3 := hk.cell_ 3 rfl
    have c4 := hk.cell_ 4 rfl
    have c5 := hk.cell_ 5 rfl
    rw [HPV.out, HZ.out]
    rw [HPV.out] at hP1
    generalize pullF s.p pl = Q at *
    go_wp2_with fail
    refine (pull_any s A1 k1 Q _ (hS.on hB) hvB hP1 HPF.out).mono ?_
    rintro e W9 ⟨A2, k2, rfl, hb, hP2⟩
    obtain ⟨W, rfl⟩ : ∃ W : World, W = W9 := ⟨_, rfl⟩
    clear c0 c1 c2 c3 c4 c5
    replace hk := hk.below hb hk.lt
    replace hP1 := hP1.on hb
    replace hB := hB.trans (hb.mono hB.size)
    clear hb
    have c0 := hk.cell_ 0 rfl
    have c1 := hk.cell_ 1 rfl
    have c2 := hk.cell_ 2 rfl
    have c3 := hk.cell_ 3 rfl
    have c4 := hk.cell_ 4 rfl
    have c5 := hk.cell_ 5 rfl
    rw [HPV2.out, HPJ.out]
    rw [HPV2.out] at hP2
    go_wp2_with fail
    refine (samePlan_any A1 A2 k1 k2 Q _ hP1 hP2 HPF.out).mono ?_
    rintro e W ⟨rfl, hb⟩
    clear c0 c1 c2 c3 c4 c5
    replace hk := hk.below hb hk.lt
    replace hP1 := hP1.on hb
    replace hP2 := hP2.on hb
    replace hB := hB.trans (hb.mono hB.size)
    clear hb
    have c0 := hk.cell_ 0 rfl
    have c1 := hk.cell_ 1 rfl
    have c2 := hk.cell_ 2 rfl
    have c3 := hk.cell_ 3 rfl
    have c4 := hk.cell_ 4 rfl
    have c5 := hk.cell_ 5 rfl
    rw [HLQ.out]
    clear hP2
    go_wp2_with fail
    clear c0 c1 c2 c3 c4 c5
    go_loopw [12] (fun x W => ∃ i : Nat, x = .int .i64 i ∧ i ≤ pl.length ∧ Blk W w.heap.size 25 #[.int .i64 s.p.op, .int .i64 s.p.cl, .slice s.aH s.p.hol.length s.cH, .int .i64 s.p.mach, .slice s.aS s.p.setup.length s.cS, .slice s.aJ s.p.jobs.length s.cJ] ∧ Plan W W.heap.size A1 Q ∧ Below w.heap.size w W) (fun x _ => pl.length - (intOf x).toNat)
    case atStart => exact ⟨0, rfl, Nat.zero_le _, hk, hP1, hB⟩
    case round =>
      clear hk hB hP1
      obtain ⟨W, rfl⟩ : ∃ W : World, W = wr := ⟨_, rfl⟩
      obtain ⟨i, rfl, hi, hk, hP1, hB⟩ := hrel
      have c0 := hk.cell_ 0 rfl
      have c1 := hk.cell_ 1 rfl
      have c2 := hk.cell_ 2 rfl
      have c3 := hk.cell_ 3 rfl
      have c4 := hk.cell_ 4 rfl
      have c5 := hk.cell_ 5 rfl
      by_cases hlt : i < pl.length
      · obtain ⟨l, hl⟩ : ∃ l, pl[i]? = some l := ⟨_, List.getElem?_eq_getElem hlt⟩
        obtain ⟨l1, hl1⟩ : ∃ l1, Q[i]? = some l1 := ⟨_, List.getElem?_eq_getElem (by rw [HLQ.out]; exact hlt)⟩
        have hst : s.p.jobs[i]? = some (s.p.jobs[i]'(by rw [← HSH.out.len]; exact hlt)) := List.getElem?_eq_getElem _
        obtain ⟨st, hst'⟩ : ∃ st, s.p.jobs[i]? = some st := ⟨_, hst⟩
        obtain ⟨g1, g2⟩ := HSH.out.at_ i l st hl hst'
        obtain ⟨g3, g4⟩ := HPS.out.at_ i l1 st hl1 hst'
        have hll : l1.length = l.length := by omega
        have hl8 : l.length ≤ 8 := by have := (hv.steps i st hst').1; omega
        have HLE := hide (fun (k : Nat) (a b : Int) (ha : l1[k]? = some a) (hb : l[k]? = some b) => show a ≤ b by
          have hk : k < st.length := by rw [← g1]; exact (List.getElem?_eq_some_iff.1 hb).1
          have h := HAT.out i k st _ hst' (List.getElem?_eq_getElem hk)
          rw [planAt_eq hl1 ha, planAt_eq hl hb] at h
          exact h)
        obtain ⟨bp, offp, Ap, cp, hAp, hbp, hcp, hSp⟩ := plan_at (hP.on hB) hl
        obtain ⟨bq, offq, Aq, cq, hAq, hbq, hcq, hSq⟩ := plan_at hP1 hl1
        rw [hll] at hcq
        have HLL := hide hll
        have HL := hide (And.intro hl hl1)
        clear hl hl1 hst hst' g1 g2 g3 g4 hll
        subst hAp hAq
        have hii : (i : Int) < (pl.length : Int) := by omega
        go_wp2_with fail
        refine wp_region_quiet (C := fun w' => ∃ u : Since W, w' = u.w) (by kernel_rfl) (by kernel_rfl) (Since.start W) ?_
        dsimp only
        have y_c0 := Since.cell c0
        have y_c1 := Since.cell c1
        have y_c2 := Since.cell c2
        have y_c3 := Since.cell c3
        have y_c4 := Since.cell c4
        have y_c5 := Since.cell c5
        have y_hcp := Since.cell hcp
        have y_hcq := Since.cell hcq
        clear c0 c1 c2 c3 c4 c5
        repeat (go_big_quiet_step ((fail)))
        refine wpQuiet_nil ?_
        rintro W ⟨⟨_, hb⟩, rfl⟩
        try dsimp only at hb ⊢
        replace hcp : W.cell? _ = _ := y_hcp ⟨W, hb⟩
        replace hcq : W.cell? _ = _ := y_hcq ⟨W, hb⟩
        clear y_c0 y_c1 y_c2 y_c3 y_c4 y_c5 y_hcp y_hcq
        replace hk := hk.below hb hk.lt
        replace hSp := (hSp.below hb).more hb.size
        replace hSq := (hSq.below hb).more hb.size
        replace hP1 := hP1.on hb
        replace hB := hB.trans (hb.mono hB.size)
        clear hb
        have c0 := hk.cell_ 0 rfl
        have c1 := hk.cell_ 1 rfl
        have c2 := hk.cell_ 2 rfl
        have c3 := hk.cell_ 3 rfl
        have c4 := hk.cell_ 4 rfl
        have c5 := hk.cell_ 5 rfl
        clear hcp hcq
        go_wp2_with fail
        clear c0 c1 c2 c3 c4 c5
        go_loopw [13] (fun y W => ∃ k : Nat, y = .int .i64 k ∧ k ≤ l.length ∧ Blk W w.heap.size 25 #[.int .i64 s.p.op, .int .i64 s.p.cl, .slice s.aH s.p.hol.length s.cH, .int .i64 s.p.mach, .slice s.aS s.p.setup.length s.cS, .slice s.aJ s.p.jobs.length s.cJ] ∧ Slc intEnc 1 W W.heap.size Ap l ∧ Slc intEnc 1 W W.heap.size Aq l1 ∧ Plan W W.heap.size (some ⟨bq, offq, none⟩) Q ∧ Below w.heap.size w W) (fun y _ => l.length - (intOf y).toNat)
        case atStart => exact ⟨0, rfl, Nat.zero_le _, hk, hSp, hSq, hP1, hB⟩
        case round =>
          clear hk hB hP1 hSp hSq
          obtain ⟨W, rfl⟩ : ∃ W : World, W = wr := ⟨_, rfl⟩
          obtain ⟨k, rfl, hk2, hk, hSp, hSq, hP1, hB⟩ := hrel
          obtain ⟨bp', offp', Ap', cp', hAp', hbp', hcp, hSp'⟩ := plan_at (hP.on hB) HL.out.1
          obtain ⟨bq', offq', Aq', cq', hAq', hbq', hcq, hSq'⟩ := plan_at hP1 HL.out.2
          obtain ⟨rfl, rfl⟩ : bp = bp' ∧ offp = offp' := by simpa using hAp'
          obtain ⟨rfl, rfl⟩ : bq = bq' ∧ offq = offq' := by simpa using hAq'
          rw [HLL.out] at hcq
          clear hAp' hAq'
          have c0 := hk.cell_ 0 rfl
          have c1 := hk.cell_ 1 rfl
          have c2 := hk.cell_ 2 rfl
          have c3 := hk.cell_ 3 rfl
          have c4 := hk.cell_ 4 rfl
          have c5 := hk.cell_ 5 rfl
          by_cases hlk : k < l.length
          · obtain ⟨a, ha⟩ : ∃ a, l1[k]? = some a := ⟨_, List.getElem?_eq_getElem (by rw [HLL.out]; exact hlk)⟩
            obtain ⟨b, hb⟩ : ∃ b, l[k]? = some b := ⟨_, List.getElem?_eq_getElem hlk⟩
            have hle := HLE.out k a b ha hb
            obtain ⟨bu, offu, hAu, hbu, hcu⟩ := int_at hSp' hb
            obtain ⟨bv, offv, hAv, hbv, hcv⟩ := int_at hSq' ha
            have hki : (k : Int) < (l.length : Int) := by omega
            clear ha hb hSp' hSq'
            subst hAu hAv
            go_wp2_with fail
            go_wp2_with fail
            refine wp_region_quiet (C := fun w' => ∃ u : Since W, w' = u.w) (by kernel_rfl) (by kernel_rfl) (Since.start W) ?_
            dsimp only
            have y_c0 := Since.cell c0
            have y_c1 := Since.cell c1
            have y_c2 := Since.cell c2
            have y_c3 := Since.cell c3
            have y_c4 := Since.cell c4
            have y_c5 := Since.cell c5
            have y_hcp := Since.cell hcp
            have y_hcq := Since.cell hcq
            have y_hcu := Since.cell hcu
            have y_hcv := Since.cell hcv
            clear c0 c1 c2 c3 c4 c5
            repeat (go_big_quiet_step ((fail)))
            refine wpQuiet_nil ?_
            rintro W ⟨⟨_, hb⟩, rfl⟩
            try dsimp only at hb ⊢
            replace hcp : W.cell? _ = _ := y_hcp ⟨W, hb⟩
            replace hcq : W.cell? _ = _ := y_hcq ⟨W, hb⟩
            replace hcu : W.cell? _ = _ := y_hcu ⟨W, hb⟩
            replace hcv : W.cell? _ = _ := y_hcv ⟨W, hb⟩
            clear y_c0 y_c1 y_c2 y_c3 y_c4 y_c5 y_hcp y_hcq y_hcu y_hcv
            replace hk := hk.below hb hk.lt
            replace hSp := (hSp.below hb).more hb.size
            replace hSq := (hSq.below hb).more hb.size
            replace hP1 := hP1.on hb
            replace hB := hB.trans (hb.mono hB.size)
            clear hb
            have c0 := hk.cell_ 0 rfl
            have c1 := hk.cell_ 1 rfl
            have c2 := hk.cell_ 2 rfl
            have c3 := hk.cell_ 3 rfl
            have c4 := hk.cell_ 4 rfl
            have c5 := hk.cell_ 5 rfl
            go_wp2_with fail
            go_roundw
            case rel => exact ⟨k + 1, by go_num, by omega, hk, hSp, hSq, hP1, hB⟩
            case measure => simp [intOf]; omega
          · obtain rfl : k = l.length := by omega
            go_wp2_with fail
            go_roundw
            case rel => exact ⟨i + 1, by go_num, by omega, hk, hP1, hB⟩
            case measure => simp [intOf]; omega
      · obtain rfl : i = pl.length := by omega
        go_wp2_with fail
        clear c0 c1 c2 c3 c4 c5
        go_loopw [14] (fun y W => ∃ m : Nat, y = .int .i64 m ∧ (m : Int) ≤ s.p.mach ∧ Blk W w.heap.size 25 #[.int .i64 s.p.op, .int .i64 s.p.cl, .slice s.aH s.p.hol.length s.cH, .int .i64 s.p.mach, .slice s.aS s.p.setup.length s.cS, .slice s.aJ s.p.jobs.length s.cJ] ∧ Plan W W.heap.size A1 Q ∧ Below w.heap.size w W) (fun y _ => s.p.mach.toNat - (intOf y).toNat)
        case atStart => exact ⟨0, rfl, (by omega), hk, hP1, hB⟩
        case round =>
          clear hk hB hP1
          obtain ⟨W, rfl⟩ : ∃ W : World, W = wr := ⟨_, rfl⟩
          obtain ⟨m, rfl, hm, hk, hP1, hB⟩ := hrel
          have c0 := hk.cell_ 0 rfl
          have c1 := hk.cell_ 1 rfl
          have c2 := hk.cell_ 2 rfl
          have c3 := hk.cell_ 3 rfl
          have c4 := hk.cell_ 4 rfl
          have c5 := hk.cell_ 5 rfl
          by_cases hlt2 : (m : Int) < s.p.mach
          · obtain ⟨q1, q2⟩ := ordL_yes (pl := pl) (m := (m : Int)) (by omega) hlt2 HZ.out
            obtain ⟨q3, q4⟩ := ordL_yes (pl := Q) (m := (m : Int)) (by omega) hlt2 HPJ.out
            have HQ1 := hide (And.intro (And.intro q1 q2) (And.intro q3 q4))
            clear q1 q2 q3 q4
            go_wp2_with fail
            refine (apiOrder_any s A c pl m _ (hS.on hB) hvB (hP.on hB) hpf).mono ?_
            rintro e W9 ⟨AO, cO, rfl, hb, hO⟩
            rw [HQ1.out.1.1, HQ1.out.1.2]
            rw [HQ1.out.1.1] at hO
            obtain ⟨W, rfl⟩ : ∃ W : World, W = W9 := ⟨_, rfl⟩
            clear c0 c1 c2 c3 c4 c5
            replace hk := hk.below hb hk.lt
            replace hP1 := hP1.on hb
            replace hB := hB.trans (hb.mono hB.size)
            clear hb
            have c0 := hk.cell_ 0 rfl
            have c1 := hk.cell_ 1 rfl
            have c2 := hk.cell_ 2 rfl
            have c3 := hk.cell_ 3 rfl
            have c4 := hk.cell_ 4 rfl
            have c5 := hk.cell_ 5 rfl
            go_wp2_with fail
            refine (apiOrder_n s A1 k1 pl.length Q m _ HLQ.out (hS.on hB) hvB hP1 HPF.out).mono ?_
            rintro e W9 ⟨AR, cR, rfl, hb, hR⟩
            rw [HQ1.out.2.1, HQ1.out.2.2]
            rw [HQ1.out.2.1] at hR
            obtain ⟨W, rfl⟩ : ∃ W : World, W = W9 := ⟨_, rfl⟩
            clear c0 c1 c2 c3 c4 c5
            replace hk := hk.below hb hk.lt
            replace hP1 := hP1.on hb
            replace hO := hO.on hb
            replace hB := hB.trans (hb.mono hB.size)
            clear hb
            have c0 := hk.cell_ 0 rfl
            have c1 := hk.cell_ 1 rfl
            have c2 := hk.cell_ 2 rfl
            have c3 := hk.cell_ 3 rfl
            have c4 := hk.cell_ 4 rfl
            have c5 := hk.cell_ 5 rfl
            have hR2 := slc_keys hR (HOS.out m)
            have hlen : (sortA (onM (ats s.p Q) (m : Int))).length = (sortA (onM (ats s.p pl) (m : Int))).length := by
              have := congrArg List.length (HOS.out m)
              simpa using this
            rw [hlen]
            have hl9 : (sortA (onM (ats s.p pl) (m : Int))).length ≤ 9223372036854775807 := by
              have h1 := (sortA_perm (onM (ats s.p pl) (m : Int))).length_eq
              have h2 : (onM (ats s.p pl) (m : Int)).length ≤ (ats s.p pl).length := List.length_filter_le _ _
              have h3 := ats_len s.p pl
              have h4 := ents_len hv
              omega
            clear hlen hR
            go_wp2_with fail
            refine (samePairs_any AO AR cO cR _ _ hl9 hO hR2).mono ?_
            rintro e W ⟨rfl, hb⟩
            clear c0 c1 c2 c3 c4 c5
            replace hk := hk.below hb hk.lt
            replace hP1 := hP1.on hb
            replace hO := hO.on hb
            replace hR2 := hR2.on hb
            replace hB := hB.trans (hb.mono hB.size)
            clear hb
            have c0 := hk.cell_ 0 rfl
            have c1 := hk.cell_ 1 rfl
            have c2 := hk.cell_ 2 rfl
            have c3 := hk.cell_ 3 rfl
            have c4 := hk.cell_ 4 rfl
            have c5 := hk.cell_ 5 rfl
            go_wp2_with fail
            go_roundw
            case rel => exact ⟨m + 1, by go_num, by omega, hk, hP1, hB⟩
            case measure => simp [intOf]; omega
          · go_wp2_with fail
            refine (first_any _).mono ?_
            rintro e W ⟨rfl, hb⟩
            clear c0 c1 c2 c3 c4 c5
            replace hk := hk.below hb hk.lt
            replace hP1 := hP1.on hb
            replace hB := hB.trans (hb.mono hB.size)
            clear hb
            have c0 := hk.cell_ 0 rfl
            have c1 := hk.cell_ 1 rfl
            have c2 := hk.cell_ 2 rfl
            have c3 := hk.cell_ 3 rfl
            have c4 := hk.cell_ 4 rfl
            have c5 := hk.cell_ 5 rfl
            go_wp2_with fail
            go_ret
            exact ⟨rfl, hB⟩
  · have hzb : ((judgeF s.p pl).2.2 != 0) = true := by simpa using hz
    have HZ := hide hz
    clear hz
    go_wp2_with fail
    refine (first_any _).mono ?_
    rintro e W ⟨rfl, hb⟩
    clear c0 c1 c2 c3 c4 c5
    replace hk := hk.below hb hk.lt
    replace hB := hB.trans (hb.mono hB.size)
    clear hb
    have c0 := hk.cell_ 0 rfl
    have c1 := hk.cell_ 1 rfl
    have c2 := hk.cell_ 2 rfl
    have c3 := hk.cell_ 3 rfl
    have c4 := hk.cell_ 4 rfl
    have c5 := hk.cell_ 5 rfl
    go_wp2_with fail
    go_ret
    exact ⟨rfl, hB⟩
end Go.Proofs.Ytcpnfcnobnjhdaa
