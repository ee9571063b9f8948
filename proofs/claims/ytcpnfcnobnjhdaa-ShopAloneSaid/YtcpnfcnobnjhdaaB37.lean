/- Parts of the proofs of this seat: ShopPulls. Each part says what it proves; no condition beyond those stated there. -/
import Derived.Test.YtcpnfcnobnjhdaaB34
import Derived.Test.YtcpnfcnobnjhdaaB36

/- The law ShopPulls: the walk. -/
namespace Go.Proofs.Ytcpnfcnobnjhdaa
open Go.RowKit
set_option maxRecDepth 200000 in
set_option maxHeartbeats 4000000 in
theorem pulls_walk (s : Sh) (A : Option Addr) (c : Nat) (pl : List (List Int)) (w : World) (hS : ShAt w w.heap.size s) (hf : Fits s.p) (hP : Plan w w.heap.size A pl) (hpf : PFits pl) :
    Calls Try.prog 12 #[.agg #[.int .i64 s.p.op, .int .i64 s.p.cl, .slice s.aH s.p.hol.length s.cH, .int .i64 s.p.mach, .slice s.aS s.p.setup.length s.cS, .slice s.aJ s.p.jobs.length s.cJ], .slice A pl.length c] w fun e w' => e = .returned (.bool true) ∧ Below w.heap.size w w' := by
  have hk := Blk.new w 25 #[.int .i64 s.p.op, .int .i64 s.p.cl, .slice s.aH s.p.hol.length s.cH, .int .i64 s.p.mach, .slice s.aS s.p.setup.length s.cS, .slice s.aJ s.p.jobs.length s.cJ]
  have hB := (Below.refl w.heap.size w).alloc (Nat.le_refl _) (.cells #[.int .i64 s.p.op, .int .i64 s.p.cl, .slice s.aH s.p.hol.length s.cH, .int .i64 s.p.mach, .slice s.aS s.p.setup.length s.cS, .slice s.aJ s.p.jobs.length s.cJ] 25)
  go_enter Try.func12, Try.ntmps12
  go_wp2_with fail
  generalize w.alloc (.cells #[.int .i64 s.p.op, .int .i64 s.p.cl, .slice s.aH s.p.hol.length s.cH, .int .i64 s.p.mach, .slice s.aS s.p.setup.length s.cS, .slice s.aJ s.p.jobs.length s.cJ] 25) = W at *
  have c0 := hk.cell_ 0 rfl
  have c1 := hk.cell_ 1 rfl
  have c2 := hk.cell_ 2 rfl
  have c3 := hk.cell_ 3 rfl
  have c4 := hk.cell_ 4 rfl
  have c5 := hk.cell_ 5 rfl
  go_wp2_with fail
  refine (long_any s _ (hS.on hB) hf.h1 hf.h2 hf.h3 hf.h4).mono ?_
  rintro e W ⟨rfl, hb⟩
  clear c0 c1 c2 c3 c4 c5
  replace hk := hk.below hb hk.lt
  replace hB := hB.trans (hb.mono hB.size)
  clear hb
  have c0 := hk.cell_ 0 rfl
  have c1 := hk.cell_ 1 rfl
  have c2 := hk.cell_ 2 rfl
  have c3 := hk.cell_ 3 rfl
  have c4 := hk.cell_ 4 rfl
  have c5 := hk.cell_ 5 rfl
  cases hl : longB s.p
  case true =>
    go_wp2_with fail
    refine (first_any _).mono ?_
    rintro e W ⟨rfl, hb⟩
    clear c0 c1 c2 c3 c4 c5
    replace hk := hk.below hb hk.lt
    replace hB := hB.trans (hb.mono hB.size)
    clear hb
    have c0 := hk.cell_ 0 rfl
    have c1 := hk.cell_ 1 rfl
    have c2 := hk.cell_ 2 rfl
    have c3 := hk.cell_ 3 rfl
    have c4 := hk.cell_ 4 rfl
    have c5 := hk.cell_ 5 rfl
    go_wp2_with fail
    go_ret
    exact ⟨rfl, hB⟩
  go_wp2_with fail
  refine (wide_any A c pl _ (hP.on hB) hpf).mono ?_
  rintro e W ⟨rfl, hb⟩
  clear c0 c1 c2 c3 c4 c5
  replace hk := hk.below hb hk.lt
  replace hB := hB.trans (hb.mono hB.size)
  clear hb
  have c0 := hk.cell_ 0 rfl
  have c1 := hk.cell_ 1 rfl
  have c2 := hk.cell_ 2 rfl
  have c3 := hk.cell_ 3 rfl
  have c4 := hk.cell_ 4 rfl
  have c5 := hk.cell_ 5 rfl
  cases hw : wideB pl
  case true =>
    go_wp2_with fail
    refine (first_any _).mono ?_
    rintro e W ⟨rfl, hb⟩
    clear c0 c1 c2 c3 c4 c5
    replace hk := hk.below hb hk.lt
    replace hB := hB.trans (hb.mono hB.size)
    clear hb
    have c0 := hk.cell_ 0 rfl
    have c1 := hk.cell_ 1 rfl
    have c2 := hk.cell_ 2 rfl
    have c3 := hk.cell_ 3 rfl
    have c4 := hk.cell_ 4 rfl
    have c5 := hk.cell_ 5 rfl
    go_wp2_with fail
    go_ret
    exact ⟨rfl, hB⟩
  go_wp2_with fail
  refine (refValid_any s _ (hS.on hB) hf.h1 hf.h2 hf.h3 hf.h4).mono ?_
  rintro e W ⟨rfl, hb⟩
  clear c0 c1 c2 c3 c4 c5
  replace hk := hk.below hb hk.lt
  replace hB := hB.trans (hb.mono hB.size)
  clear hb
  have c0 := hk.cell_ 0 rfl
  have c1 := hk.cell_ 1 rfl
  have c2 := hk.cell_ 2 rfl
  have c3 := hk.cell_ 3 rfl
  have c4 := hk.cell_ 4 rfl
  have c5 := hk.cell_ 5 rfl
  cases hvB : validShop s.p
  case false =>
    go_wp2_with fail
    refine (first_any _).mono ?_
    rintro e W ⟨rfl, hb⟩
    clear c0 c1 c2 c3 c4 c5
    replace hk := hk.below hb hk.lt
    replace hB := hB.trans (hb.mono hB.size)
    clear hb
    have c0 := hk.cell_ 0 rfl
    have c1 := hk.cell_ 1 rfl
    have c2 := hk.cell_ 2 rfl
    have c3 := hk.cell_ 3 rfl
    have c4 := hk.cell_ 4 rfl
    have c5 := hk.cell_ 5 rfl
    go_wp2_with fail
    go_ret
    exact ⟨rfl, hB⟩
  have hv := valid_facts hvB
  have hjn := hv.jobn
  have HV3 : Hid (V3 (judgeF s.p pl) = .tuple #[.int .i64 (judgeF s.p pl).1, .int .i64 (judgeF s.p pl).2.1, .int .i64 (judgeF s.p pl).2.2]) := rfl
  by_cases hz : (judgeF s.p pl).2.2 = 0
  · have HPV := hide (show pullV s.p pl = pullF s.p pl by unfold pullV; rw [if_pos hz])
    have HFT := hide (fits_of hv (pull_right hv hz).shape)
    have HZ := hide hz
    clear hz
    go_wp2_with fail
    refine (pull_any s A c pl _ (hS.on hB) hvB (hP.on hB) hpf).mono ?_
    rintro e W9 ⟨A1, k1, rfl, hb, hP1⟩
    obtain ⟨W, rfl⟩ : ∃ W : World, W = W9 := ⟨_, rfl⟩
    clear c0 c1 c2 c3 c4 c5
    replace hk := hk.below hb hk.lt
    replace hB := hB.trans (hb.mono hB.size)
    clear hb
    have c0 := hk.cell_ 0 rfl
    have c1 := hk.cell_ 1 rfl
    have c2 := hk.cell_ 2 rfl
    have c3 := hk.cell_ 3 rfl
    have c4 := hk.cell_ 4 rfl
    have c5 := hk.cell_ 5 rfl
    rw [HPV.out, HZ.out]
    rw [HPV.out] at hP1
    go_wp2_with fail
    refine (refJudge_any s A c pl _ (hS.on hB) hv (hP.on hB) hpf).mono ?_
    rintro e W ⟨rfl, hb⟩
    clear c0 c1 c2 c3 c4 c5
    replace hk := hk.below hb hk.lt
    replace hP1 := hP1.on hb
    replace hB := hB.trans (hb.mono hB.size)
    clear hb
    have c0 := hk.cell_ 0 rfl
    have c1 := hk.cell_ 1 rfl
    have c2 := hk.cell_ 2 rfl
    have c3 := hk.cell_ 3 rfl
    have c4 := hk.cell_ 4 rfl
    have c5 := hk.cell_ 5 rfl
    rw [HV3.out, HZ.out]
    go_wp2_with fail
    refine (refPull_any s A c pl _ (hS.on hB) hv (hP.on hB) HZ.out).mono ?_
    rintro e W ⟨A2, k2, rfl, hb, hP2⟩
    clear c0 c1 c2 c3 c4 c5
    replace hk := hk.below hb hk.lt
    replace hP1 := hP1.on hb
    replace hB := hB.trans (hb.mono hB.size)
    clear hb
    have c0 := hk.cell_ 0 rfl
    have c1 := hk.cell_ 1 rfl
    have c2 := hk.cell_ 2 rfl
    have c3 := hk.cell_ 3 rfl
    have c4 := hk.cell_ 4 rfl
    have c5 := hk.cell_ 5 rfl
    go_wp2_with fail
    refine (samePlan_any A1 A2 k1 k2 (pullF s.p pl) _ hP1 hP2 HFT.out).mono ?_
    rintro e W ⟨rfl, hb⟩
    clear c0 c1 c2 c3 c4 c5
    replace hk := hk.below hb hk.lt
    replace hP1 := hP1.on hb
    replace hP2 := hP2.on hb
    replace hB := hB.trans (hb.mono hB.size)
    clear hb
    have c0 := hk.cell_ 0 rfl
    have c1 := hk.cell_ 1 rfl
    have c2 := hk.cell_ 2 rfl
    have c3 := hk.cell_ 3 rfl
    have c4 := hk.cell_ 4 rfl
    have c5 := hk.cell_ 5 rfl
    go_wp2_with fail
    refine (first_any _).mono ?_
    rintro e W ⟨rfl, hb⟩
    clear c0 c1 c2 c3 c4 c5
    replace hk := hk.below hb hk.lt
    replace hP1 := hP1.on hb
    replace hP2 := hP2.on hb
    replace hB := hB.trans (hb.mono hB.size)
    clear hb
    have c0 := hk.cell_ 0 rfl
    have c1 := hk.cell_ 1 rfl
    have c2 := hk.cell_ 2 rfl
    have c3 := hk.cell_ 3 rfl
    have c4 := hk.cell_ 4 rfl
    have c5 := hk.cell_ 5 rfl
    go_wp2_with fail
    go_ret
    exact ⟨rfl, hB⟩
  · have HPV := hide (show pullV s.p pl = [] by unfold pullV; rw [if_neg hz])
    have hzb : ((judgeF s.p pl).2.2 != 0) = true := by simpa using hz
    have HZ := hide hz
    clear hz
    go_wp2_with fail
    refine (pull_any s A c pl _ (hS.on hB) hvB (hP.on hB) hpf).mono ?_
    rintro e W9 ⟨A1, k1, rfl, hb, hP1⟩
    obtain ⟨W, rfl⟩ : ∃ W : World, W = W9 := ⟨_, rfl⟩
    clear c0 c1 c2 c3 c4 c5
    replace hk := hk.below hb hk.lt
    replace hB := hB.trans (hb.mono hB.size)
    clear hb
    have c0 := hk.cell_ 0 rfl
    have c1 := hk.cell_ 1 rfl
    have c2 := hk.cell_ 2 rfl
    have c3 := hk.cell_ 3 rfl
    have c4 := hk.cell_ 4 rfl
    have c5 := hk.cell_ 5 rfl
    rw [HPV.out]
    clear hP1
    go_wp2_with fail
    refine (refJudge_any s A c pl _ (hS.on hB) hv (hP.on hB) hpf).mono ?_
    rintro e W ⟨rfl, hb⟩
    clear c0 c1 c2 c3 c4 c5
    replace hk := hk.below hb hk.lt
    replace hB := hB.trans (hb.mono hB.size)
    clear hb
    have c0 := hk.cell_ 0 rfl
    have c1 := hk.cell_ 1 rfl
    have c2 := hk.cell_ 2 rfl
    have c3 := hk.cell_ 3 rfl
    have c4 := hk.cell_ 4 rfl
    have c5 := hk.cell_ 5 rfl
    rw [HV3.out]
    go_wp2_with fail
    refine (first_any _).mono ?_
    rintro e W ⟨rfl, hb⟩
    clear c0 c1 c2 c3 c4 c5
    replace hk := hk.below hb hk.lt
    replace hB := hB.trans (hb.mono hB.size)
    clear hb
    have c0 := hk.cell_ 0 rfl
    have c1 := hk.cell_ 1 rfl
    have c2 := hk.cell_ 2 rfl
    have c3 := hk.cell_ 3 rfl
    have c4 := hk.cell_ 4 rfl
    have c5 := hk.cell_ 5 rfl
    go_wp2_with fail
    go_ret
    exact ⟨rfl, hB⟩
end Go.Proofs.Ytcpnfcnobnjhdaa
