/- Parts of the proofs of this seat: ShopOrders. Each part says what it proves; no condition beyond those stated there. -/
import Derived.Test.YtcpnfcnobnjhdaaB5
import Derived.Test.YtcpnfcnobnjhdaaB24

/- The law ShopOrders: the walk. -/
namespace Go.Proofs.Ytcpnfcnobnjhdaa
open Go.RowKit
theorem ordL_in {p : Shop} {pl : List (List Int)} {m : Int} (h0 : 0 ≤ m) (h1 : m < p.mach) : ordL p pl m = (rightL p pl).filter (fun a => decide (a.x.m = m)) ∧ ordE p pl m = (judgeF p pl).2.2 := by
  have h : inB 0 m (p.mach - 1) = true := inB_iff.2 ⟨h0, by omega⟩
  unfold ordL ordE
  rw [h]
  exact ⟨rfl, rfl⟩
theorem ordL_out {p : Shop} {pl : List (List Int)} {m : Int} (h : m < 0 ∨ p.mach ≤ m) : ordL p pl m = [] ∧ ordE p pl m = 2 := by
  have h : inB 0 m (p.mach - 1) = false := inB_false.2 (by omega)
  unfold ordL ordE
  rw [h]
  exact ⟨rfl, rfl⟩
theorem rightL_yes {p : Shop} {pl : List (List Int)} (h : (judgeF p pl).2.2 = 0) : rightL p pl = sortA (ats p pl) := by unfold rightL; rw [if_pos h]
theorem rightL_no {p : Shop} {pl : List (List Int)} (h : (judgeF p pl).2.2 ≠ 0) : rightL p pl = [] := by unfold rightL; rw [if_neg h]
theorem endV_no {p : Shop} {pl : List (List Int)} (h : (judgeF p pl).2.2 ≠ 0) : endV p pl = 0 := by unfold endV; rw [rightL_no h]; rfl
theorem ordL_yes {p : Shop} {pl : List (List Int)} {m : Int} (h0 : 0 ≤ m) (h1 : m < p.mach) (h : (judgeF p pl).2.2 = 0) : ordL p pl m = sortA (onM (ats p pl) m) ∧ ordE p pl m = 0 := by
  obtain ⟨h2, h3⟩ := ordL_in (pl := pl) h0 h1
  rw [h2, h3, rightL_yes h, sortA_filter]
  exact ⟨rfl, h⟩
theorem ordL_bad {p : Shop} {pl : List (List Int)} {m : Int} (h0 : 0 ≤ m) (h1 : m < p.mach) (h : (judgeF p pl).2.2 ≠ 0) : ordL p pl m = [] ∧ ordE p pl m = (judgeF p pl).2.2 := by
  obtain ⟨h2, h3⟩ := ordL_in (pl := pl) h0 h1
  rw [h2, h3, rightL_no h]
  exact ⟨rfl, rfl⟩
set_option maxRecDepth 200000 in
set_option maxHeartbeats 4000000 in
theorem orders_walk (s : Sh) (A : Option Addr) (c : Nat) (pl : List (List Int)) (mc : Int) (w : World) (hS : ShAt w w.heap.size s) (hf : Fits s.p) (hP : Plan w w.heap.size A pl) (hpf : PFits pl) :
    Calls Try.prog 11 #[.agg #[.int .i64 s.p.op, .int .i64 s.p.cl, .slice s.aH s.p.hol.length s.cH, .int .i64 s.p.mach, .slice s.aS s.p.setup.length s.cS, .slice s.aJ s.p.jobs.length s.cJ], .slice A pl.length c, .int .i64 mc] w fun e w' => e = .returned (.bool true) ∧ Below w.heap.size w w' := by
  have hk := Blk.new w 25 #[.int .i64 s.p.op, .int .i64 s.p.cl, .slice s.aH s.p.hol.length s.cH, .int .i64 s.p.mach, .slice s.aS s.p.setup.length s.cS, .slice s.aJ s.p.jobs.length s.cJ]
  have hB := (Below.refl w.heap.size w).alloc (Nat.le_refl _) (.cells #[.int .i64 s.p.op, .int .i64 s.p.cl, .slice s.aH s.p.hol.length s.cH, .int .i64 s.p.mach, .slice s.aS s.p.setup.length s.cS, .slice s.aJ s.p.jobs.length s.cJ] 25)
  go_enter Try.func11, Try.ntmps11
  go_wp2_with fail
  generalize w.alloc (.cells #[.int .i64 s.p.op, .int .i64 s.p.cl, .slice s.aH s.p.hol.length s.cH, .int .i64 s.p.mach, .slice s.aS s.p.setup.length s.cS, .slice s.aJ s.p.jobs.length s.cJ] 25) = W at *
  have c0 := hk.cell_ 0 rfl
  have c1 := hk.cell_ 1 rfl
  have c2 := hk.cell_ 2 rfl
  have c3 := hk.cell_ 3 rfl
  have c4 := hk.cell_ 4 rfl
  have c5 := hk.cell_ 5 rfl
  go_wp2_with fail
  refine (long_any s _ (hS.on hB) hf.h1 hf.h2 hf.h3 hf.h4).mono ?_
  rintro e W ⟨rfl, hb⟩
  clear c0 c1 c2 c3 c4 c5
  replace hk := hk.below hb hk.lt
  replace hB := hB.trans (hb.mono hB.size)
  clear hb
  have c0 := hk.cell_ 0 rfl
  have c1 := hk.cell_ 1 rfl
  have c2 := hk.cell_ 2 rfl
  have c3 := hk.cell_ 3 rfl
  have c4 := hk.cell_ 4 rfl
  have c5 := hk.cell_ 5 rfl
  cases hl : longB s.p
  case true =>
    go_wp2_with fail
    refine (first_any _).mono ?_
    rintro e W ⟨rfl, hb⟩
    clear c0 c1 c2 c3 c4 c5
    replace hk := hk.below hb hk.lt
    replace hB := hB.trans (hb.mono hB.size)
    clear hb
    have c0 := hk.cell_ 0 rfl
    have c1 := hk.cell_ 1 rfl
    have c2 := hk.cell_ 2 rfl
    have c3 := hk.cell_ 3 rfl
    have c4 := hk.cell_ 4 rfl
    have c5 := hk.cell_ 5 rfl
    go_wp2_with fail
    go_ret
    exact ⟨rfl, hB⟩
  go_wp2_with fail
  refine (wide_any A c pl _ (hP.on hB) hpf).mono ?_
  rintro e W ⟨rfl, hb⟩
  clear c0 c1 c2 c3 c4 c5
  replace hk := hk.below hb hk.lt
  replace hB := hB.trans (hb.mono hB.size)
  clear hb
  have c0 := hk.cell_ 0 rfl
  have c1 := hk.cell_ 1 rfl
  have c2 := hk.cell_ 2 rfl
  have c3 := hk.cell_ 3 rfl
  have c4 := hk.cell_ 4 rfl
  have c5 := hk.cell_ 5 rfl
  cases hw : wideB pl
  case true =>
    go_wp2_with fail
    refine (first_any _).mono ?_
    rintro e W ⟨rfl, hb⟩
    clear c0 c1 c2 c3 c4 c5
    replace hk := hk.below hb hk.lt
    replace hB := hB.trans (hb.mono hB.size)
    clear hb
    have c0 := hk.cell_ 0 rfl
    have c1 := hk.cell_ 1 rfl
    have c2 := hk.cell_ 2 rfl
    have c3 := hk.cell_ 3 rfl
    have c4 := hk.cell_ 4 rfl
    have c5 := hk.cell_ 5 rfl
    go_wp2_with fail
    go_ret
    exact ⟨rfl, hB⟩
  go_wp2_with fail
  refine (refValid_any s _ (hS.on hB) hf.h1 hf.h2 hf.h3 hf.h4).mono ?_
  rintro e W ⟨rfl, hb⟩
  clear c0 c1 c2 c3 c4 c5
  replace hk := hk.below hb hk.lt
  replace hB := hB.trans (hb.mono hB.size)
  clear hb
  have c0 := hk.cell_ 0 rfl
  have c1 := hk.cell_ 1 rfl
  have c2 := hk.cell_ 2 rfl
  have c3 := hk.cell_ 3 rfl
  have c4 := hk.cell_ 4 rfl
  have c5 := hk.cell_ 5 rfl
  cases hvB : validShop s.p
  case false =>
    go_wp2_with fail
    refine (first_any _).mono ?_
    rintro e W ⟨rfl, hb⟩
    clear c0 c1 c2 c3 c4 c5
    replace hk := hk.below hb hk.lt
    replace hB := hB.trans (hb.mono hB.size)
    clear hb
    have c0 := hk.cell_ 0 rfl
    have c1 := hk.cell_ 1 rfl
    have c2 := hk.cell_ 2 rfl
    have c3 := hk.cell_ 3 rfl
    have c4 := hk.cell_ 4 rfl
    have c5 := hk.cell_ 5 rfl
    go_wp2_with fail
    go_ret
    exact ⟨rfl, hB⟩
  have hv := valid_facts hvB
  have hjn := hv.jobn
  have hm1 := hv.mach1
  have hm6 := hv.mach6
  have HV3 : Hid (V3 (judgeF s.p pl) = .tuple #[.int .i64 (judgeF s.p pl).1, .int .i64 (judgeF s.p pl).2.1, .int .i64 (judgeF s.p pl).2.2]) := rfl
  by_cases hz : (judgeF s.p pl).2.2 = 0
  · have HP := hide (shaped_facts (judge_shaped hz))
    have HEV := hide (endA_eq hz)
    rcases (show (mc < 0 ∨ s.p.mach ≤ mc) ∨ (0 ≤ mc ∧ mc < s.p.mach) by omega) with ho | ⟨h0, h1⟩
    · obtain ⟨q1, q2⟩ := ordL_out (pl := pl) ho
      have HOL := hide q1
      have HOE := hide q2
      have HZ := hide hz
      clear q1 q2 hz
      go_wp2_with fail
      refine (apiEnd_any s A c pl _ (hS.on hB) hvB (hP.on hB) hpf).mono ?_
      rintro e W ⟨rfl, hb⟩
      clear c0 c1 c2 c3 c4 c5
      replace hk := hk.below hb hk.lt
      replace hB := hB.trans (hb.mono hB.size)
      clear hb
      have c0 := hk.cell_ 0 rfl
      have c1 := hk.cell_ 1 rfl
      have c2 := hk.cell_ 2 rfl
      have c3 := hk.cell_ 3 rfl
      have c4 := hk.cell_ 4 rfl
      have c5 := hk.cell_ 5 rfl
      go_wp2_with fail
      refine (apiOrder_any s A c pl mc _ (hS.on hB) hvB (hP.on hB) hpf).mono ?_
      rintro e W9 ⟨AO, cO, rfl, hb, hO⟩
      rw [HOL.out, HOE.out]
      rw [HOL.out] at hO
      obtain ⟨W, rfl⟩ : ∃ W : World, W = W9 := ⟨_, rfl⟩
      clear c0 c1 c2 c3 c4 c5
      replace hk := hk.below hb hk.lt
      replace hB := hB.trans (hb.mono hB.size)
      clear hb
      have c0 := hk.cell_ 0 rfl
      have c1 := hk.cell_ 1 rfl
      have c2 := hk.cell_ 2 rfl
      have c3 := hk.cell_ 3 rfl
      have c4 := hk.cell_ 4 rfl
      have c5 := hk.cell_ 5 rfl
      rw [HZ.out]
      go_wp2_with fail
      refine (refJudge_any s A c pl _ (hS.on hB) hv (hP.on hB) hpf).mono ?_
      rintro e W ⟨rfl, hb⟩
      clear c0 c1 c2 c3 c4 c5
      replace hk := hk.below hb hk.lt
      replace hO := hO.on hb
      replace hB := hB.trans (hb.mono hB.size)
      clear hb
      have c0 := hk.cell_ 0 rfl
      have c1 := hk.cell_ 1 rfl
      have c2 := hk.cell_ 2 rfl
      have c3 := hk.cell_ 3 rfl
      have c4 := hk.cell_ 4 rfl
      have c5 := hk.cell_ 5 rfl
      rw [HV3.out, HZ.out, ← HEV.out]
      by_cases hm0 : mc < 0
      · go_wp2_with fail
        refine (refEnd_any s A c pl _ (hS.on hB) hv (hP.on hB) HP.out).mono ?_
        rintro e W ⟨rfl, hb⟩
        clear c0 c1 c2 c3 c4 c5
        replace hk := hk.below hb hk.lt
        replace hO := hO.on hb
        replace hB := hB.trans (hb.mono hB.size)
        clear hb
        have c0 := hk.cell_ 0 rfl
        have c1 := hk.cell_ 1 rfl
        have c2 := hk.cell_ 2 rfl
        have c3 := hk.cell_ 3 rfl
        have c4 := hk.cell_ 4 rfl
        have c5 := hk.cell_ 5 rfl
        go_wp2_with fail
        refine (first_any _).mono ?_
        rintro e W ⟨rfl, hb⟩
        clear c0 c1 c2 c3 c4 c5
        replace hk := hk.below hb hk.lt
        replace hO := hO.on hb
        replace hB := hB.trans (hb.mono hB.size)
        clear hb
        have c0 := hk.cell_ 0 rfl
        have c1 := hk.cell_ 1 rfl
        have c2 := hk.cell_ 2 rfl
        have c3 := hk.cell_ 3 rfl
        have c4 := hk.cell_ 4 rfl
        have c5 := hk.cell_ 5 rfl
        go_wp2_with fail
        go_ret
        exact ⟨rfl, hB⟩
      · have hge : s.p.mach ≤ mc := by omega
        go_wp2_with fail
        refine (refEnd_any s A c pl _ (hS.on hB) hv (hP.on hB) HP.out).mono ?_
        rintro e W ⟨rfl, hb⟩
        clear c0 c1 c2 c3 c4 c5
        replace hk := hk.below hb hk.lt
        replace hO := hO.on hb
        replace hB := hB.trans (hb.mono hB.size)
        clear hb
        have c0 := hk.cell_ 0 rfl
        have c1 := hk.cell_ 1 rfl
        have c2 := hk.cell_ 2 rfl
        have c3 := hk.cell_ 3 rfl
        have c4 := hk.cell_ 4 rfl
        have c5 := hk.cell_ 5 rfl
        go_wp2_with fail
        refine (first_any _).mono ?_
        rintro e W ⟨rfl, hb⟩
        clear c0 c1 c2 c3 c4 c5
        replace hk := hk.below hb hk.lt
        replace hO := hO.on hb
        replace hB := hB.trans (hb.mono hB.size)
        clear hb
        have c0 := hk.cell_ 0 rfl
        have c1 := hk.cell_ 1 rfl
        have c2 := hk.cell_ 2 rfl
        have c3 := hk.cell_ 3 rfl
        have c4 := hk.cell_ 4 rfl
        have c5 := hk.cell_ 5 rfl
        go_wp2_with fail
        go_ret
        exact ⟨rfl, hB⟩
    · obtain ⟨q1, q2⟩ := ordL_yes (pl := pl) h0 h1 hz
      have HOL := hide q1
      have HOE := hide q2
      have HZ := hide hz
      have hlen : (sortA (onM (ats s.p pl) mc)).length ≤ 9223372036854775807 := by
        have := (sortA_perm (onM (ats s.p pl) mc)).length_eq
        have h2 : (onM (ats s.p pl) mc).length ≤ (ats s.p pl).length := List.length_filter_le _ _
        have h3 := ats_len s.p pl
        have h4 := ents_len hv
        omega
      clear q1 q2 hz
      go_wp2_with fail
      refine (apiEnd_any s A c pl _ (hS.on hB) hvB (hP.on hB) hpf).mono ?_
      rintro e W ⟨rfl, hb⟩
      clear c0 c1 c2 c3 c4 c5
      replace hk := hk.below hb hk.lt
      replace hB := hB.trans (hb.mono hB.size)
      clear hb
      have c0 := hk.cell_ 0 rfl
      have c1 := hk.cell_ 1 rfl
      have c2 := hk.cell_ 2 rfl
      have c3 := hk.cell_ 3 rfl
      have c4 := hk.cell_ 4 rfl
      have c5 := hk.cell_ 5 rfl
      go_wp2_with fail
      refine (apiOrder_any s A c pl mc _ (hS.on hB) hvB (hP.on hB) hpf).mono ?_
      rintro e W9 ⟨AO, cO, rfl, hb, hO⟩
      rw [HOL.out, HOE.out]
      rw [HOL.out] at hO
      obtain ⟨W, rfl⟩ : ∃ W : World, W = W9 := ⟨_, rfl⟩
      clear c0 c1 c2 c3 c4 c5
      replace hk := hk.below hb hk.lt
      replace hB := hB.trans (hb.mono hB.size)
      clear hb
      have c0 := hk.cell_ 0 rfl
      have c1 := hk.cell_ 1 rfl
      have c2 := hk.cell_ 2 rfl
      have c3 := hk.cell_ 3 rfl
      have c4 := hk.cell_ 4 rfl
      have c5 := hk.cell_ 5 rfl
      rw [HZ.out]
      go_wp2_with fail
      refine (refJudge_any s A c pl _ (hS.on hB) hv (hP.on hB) hpf).mono ?_
      rintro e W ⟨rfl, hb⟩
      clear c0 c1 c2 c3 c4 c5
      replace hk := hk.below hb hk.lt
      replace hO := hO.on hb
      replace hB := hB.trans (hb.mono hB.size)
      clear hb
      have c0 := hk.cell_ 0 rfl
      have c1 := hk.cell_ 1 rfl
      have c2 := hk.cell_ 2 rfl
      have c3 := hk.cell_ 3 rfl
      have c4 := hk.cell_ 4 rfl
      have c5 := hk.cell_ 5 rfl
      rw [HV3.out, HZ.out, ← HEV.out]
      go_wp2_with fail
      refine (refEnd_any s A c pl _ (hS.on hB) hv (hP.on hB) HP.out).mono ?_
      rintro e W ⟨rfl, hb⟩
      clear c0 c1 c2 c3 c4 c5
      replace hk := hk.below hb hk.lt
      replace hO := hO.on hb
      replace hB := hB.trans (hb.mono hB.size)
      clear hb
      have c0 := hk.cell_ 0 rfl
      have c1 := hk.cell_ 1 rfl
      have c2 := hk.cell_ 2 rfl
      have c3 := hk.cell_ 3 rfl
      have c4 := hk.cell_ 4 rfl
      have c5 := hk.cell_ 5 rfl
      go_wp2_with fail
      refine (refOrder_any s A c pl mc _ (hS.on hB) hv (hP.on hB) HP.out).mono ?_
      rintro e W ⟨A8, k8, rfl, hb, hO2⟩
      clear c0 c1 c2 c3 c4 c5
      replace hk := hk.below hb hk.lt
      replace hO := hO.on hb
      replace hB := hB.trans (hb.mono hB.size)
      clear hb
      have c0 := hk.cell_ 0 rfl
      have c1 := hk.cell_ 1 rfl
      have c2 := hk.cell_ 2 rfl
      have c3 := hk.cell_ 3 rfl
      have c4 := hk.cell_ 4 rfl
      have c5 := hk.cell_ 5 rfl
      go_wp2_with fail
      refine (samePairs_any AO A8 cO k8 _ _ hlen hO hO2).mono ?_
      rintro e W ⟨rfl, hb⟩
      clear c0 c1 c2 c3 c4 c5
      replace hk := hk.below hb hk.lt
      replace hO := hO.on hb
      replace hO2 := hO2.on hb
      replace hB := hB.trans (hb.mono hB.size)
      clear hb
      have c0 := hk.cell_ 0 rfl
      have c1 := hk.cell_ 1 rfl
      have c2 := hk.cell_ 2 rfl
      have c3 := hk.cell_ 3 rfl
      have c4 := hk.cell_ 4 rfl
      have c5 := hk.cell_ 5 rfl
      go_wp2_with fail
      refine (first_any _).mono ?_
      rintro e W ⟨rfl, hb⟩
      clear c0 c1 c2 c3 c4 c5
      replace hk := hk.below hb hk.lt
      replace hO := hO.on hb
      replace hO2 := hO2.on hb
      replace hB := hB.trans (hb.mono hB.size)
      clear hb
      have c0 := hk.cell_ 0 rfl
      have c1 := hk.cell_ 1 rfl
      have c2 := hk.cell_ 2 rfl
      have c3 := hk.cell_ 3 rfl
      have c4 := hk.cell_ 4 rfl
      have c5 := hk.cell_ 5 rfl
      go_wp2_with fail
      go_ret
      exact ⟨rfl, hB⟩
  · have HEV := hide (endV_no hz)
    have hzb : ((judgeF s.p pl).2.2 != 0) = true := by simpa using hz
    rcases (show (mc < 0 ∨ s.p.mach ≤ mc) ∨ (0 ≤ mc ∧ mc < s.p.mach) by omega) with ho | ⟨h0, h1⟩
    · obtain ⟨q1, q2⟩ := ordL_out (pl := pl) ho
      have HOL := hide q1
      have HOE := hide q2
      have HZ := hide hz
      clear q1 q2 hz
      go_wp2_with fail
      refine (apiEnd_any s A c pl _ (hS.on hB) hvB (hP.on hB) hpf).mono ?_
      rintro e W ⟨rfl, hb⟩
      clear c0 c1 c2 c3 c4 c5
      replace hk := hk.below hb hk.lt
      replace hB := hB.trans (hb.mono hB.size)
      clear hb
      have c0 := hk.cell_ 0 rfl
      have c1 := hk.cell_ 1 rfl
      have c2 := hk.cell_ 2 rfl
      have c3 := hk.cell_ 3 rfl
      have c4 := hk.cell_ 4 rfl
      have c5 := hk.cell_ 5 rfl
      go_wp2_with fail
      refine (apiOrder_any s A c pl mc _ (hS.on hB) hvB (hP.on hB) hpf).mono ?_
      rintro e W9 ⟨AO, cO, rfl, hb, hO⟩
      rw [HOL.out, HOE.out]
      rw [HOL.out] at hO
      obtain ⟨W, rfl⟩ : ∃ W : World, W = W9 := ⟨_, rfl⟩
      clear c0 c1 c2 c3 c4 c5
      replace hk := hk.below hb hk.lt
      replace hB := hB.trans (hb.mono hB.size)
      clear hb
      have c0 := hk.cell_ 0 rfl
      have c1 := hk.cell_ 1 rfl
      have c2 := hk.cell_ 2 rfl
      have c3 := hk.cell_ 3 rfl
      have c4 := hk.cell_ 4 rfl
      have c5 := hk.cell_ 5 rfl
      rw [HEV.out]
      go_wp2_with fail
      refine (refJudge_any s A c pl _ (hS.on hB) hv (hP.on hB) hpf).mono ?_
      rintro e W ⟨rfl, hb⟩
      clear c0 c1 c2 c3 c4 c5
      replace hk := hk.below hb hk.lt
      replace hO := hO.on hb
      replace hB := hB.trans (hb.mono hB.size)
      clear hb
      have c0 := hk.cell_ 0 rfl
      have c1 := hk.cell_ 1 rfl
      have c2 := hk.cell_ 2 rfl
      have c3 := hk.cell_ 3 rfl
      have c4 := hk.cell_ 4 rfl
      have c5 := hk.cell_ 5 rfl
      rw [HV3.out]
      by_cases hm0 : mc < 0
      · go_wp2_with fail
        refine (first_any _).mono ?_
        rintro e W ⟨rfl, hb⟩
        clear c0 c1 c2 c3 c4 c5
        replace hk := hk.below hb hk.lt
        replace hO := hO.on hb
        replace hB := hB.trans (hb.mono hB.size)
        clear hb
        have c0 := hk.cell_ 0 rfl
        have c1 := hk.cell_ 1 rfl
        have c2 := hk.cell_ 2 rfl
        have c3 := hk.cell_ 3 rfl
        have c4 := hk.cell_ 4 rfl
        have c5 := hk.cell_ 5 rfl
        go_wp2_with fail
        go_ret
        exact ⟨rfl, hB⟩
      · have hge : s.p.mach ≤ mc := by omega
        go_wp2_with fail
        refine (first_any _).mono ?_
        rintro e W ⟨rfl, hb⟩
        clear c0 c1 c2 c3 c4 c5
        replace hk := hk.below hb hk.lt
        replace hO := hO.on hb
        replace hB := hB.trans (hb.mono hB.size)
        clear hb
        have c0 := hk.cell_ 0 rfl
        have c1 := hk.cell_ 1 rfl
        have c2 := hk.cell_ 2 rfl
        have c3 := hk.cell_ 3 rfl
        have c4 := hk.cell_ 4 rfl
        have c5 := hk.cell_ 5 rfl
        go_wp2_with fail
        go_ret
        exact ⟨rfl, hB⟩
    · obtain ⟨q1, q2⟩ := ordL_bad (pl := pl) h0 h1 hz
      have HOL := hide q1
      have HOE := hide q2
      have HZ := hide hz
      clear q1 q2 hz
      go_wp2_with fail
      refine (apiEnd_any s A c pl _ (hS.on hB) hvB (hP.on hB) hpf).mono ?_
      rintro e W ⟨rfl, hb⟩
      clear c0 c1 c2 c3 c4 c5
      replace hk := hk.below hb hk.lt
      replace hB := hB.trans (hb.mono hB.size)
      clear hb
      have c0 := hk.cell_ 0 rfl
      have c1 := hk.cell_ 1 rfl
      have c2 := hk.cell_ 2 rfl
      have c3 := hk.cell_ 3 rfl
      have c4 := hk.cell_ 4 rfl
      have c5 := hk.cell_ 5 rfl
      go_wp2_with fail
      refine (apiOrder_any s A c pl mc _ (hS.on hB) hvB (hP.on hB) hpf).mono ?_
      rintro e W9 ⟨AO, cO, rfl, hb, hO⟩
      rw [HOL.out, HOE.out]
      rw [HOL.out] at hO
      obtain ⟨W, rfl⟩ : ∃ W : World, W = W9 := ⟨_, rfl⟩
      clear c0 c1 c2 c3 c4 c5
      replace hk := hk.below hb hk.lt
      replace hB := hB.trans (hb.mono hB.size)
      clear hb
      have c0 := hk.cell_ 0 rfl
      have c1 := hk.cell_ 1 rfl
      have c2 := hk.cell_ 2 rfl
      have c3 := hk.cell_ 3 rfl
      have c4 := hk.cell_ 4 rfl
      have c5 := hk.cell_ 5 rfl
      rw [HEV.out]
      go_wp2_with fail
      refine (refJudge_any s A c pl _ (hS.on hB) hv (hP.on hB) hpf).mono ?_
      rintro e W ⟨rfl, hb⟩
      clear c0 c1 c2 c3 c4 c5
      replace hk := hk.below hb hk.lt
      replace hO := hO.on hb
      replace hB := hB.trans (hb.mono hB.size)
      clear hb
      have c0 := hk.cell_ 0 rfl
      have c1 := hk.cell_ 1 rfl
      have c2 := hk.cell_ 2 rfl
      have c3 := hk.cell_ 3 rfl
      have c4 := hk.cell_ 4 rfl
      have c5 := hk.cell_ 5 rfl
      rw [HV3.out]
      go_wp2_with fail
      refine (first_any _).mono ?_
      rintro e W ⟨rfl, hb⟩
      clear c0 c1 c2 c3 c4 c5
      replace hk := hk.below hb hk.lt
      replace hO := hO.on hb
      replace hB := hB.trans (hb.mono hB.size)
      clear hb
      have c0 := hk.cell_ 0 rfl
      have c1 := hk.cell_ 1 rfl
      have c2 := hk.cell_ 2 rfl
      have c3 := hk.cell_ 3 rfl
      have c4 := hk.cell_ 4 rfl
      have c5 := hk.cell_ 5 rfl
      go_wp2_with fail
      go_ret
      exact ⟨rfl, hB⟩
end Go.Proofs.Ytcpnfcnobnjhdaa
