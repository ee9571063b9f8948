/- NightRight: the walk. -/
import Derived.Test.YtfhlopegmfdkpaaNRefTour
import Derived.Test.YtfhlopegmfdkpaaNLate
import Derived.Test.YtfhlopegmfdkpaaNLaw3
namespace Go.Proofs.Ytfhlopegmfdkpaa
open Go Go.RowKit
theorem tourT_len (js : List Job) (ns : List Nit) (pl : List Int) (k : Int) : (tourT js ns pl k).length ≤ pl.length := by
  unfold tourT
  split
  · rw [tourL_len]; exact idxT_len pl k pl.length
  · simp
set_option maxRecDepth 100000 in
set_option maxHeartbeats 4000000 in
theorem right_walk (s : Sea) (AP : Option Addr) (cP : Nat) (pl : List Int) (k : Int) (AW : Option Addr) (cW : Nat) (ws : List Int) (w : World) (hS : SeaAt w s) (hP : Slc intEnc 1 w w.heap.size AP pl) (hW : Slc intEnc 1 w w.heap.size AW ws) (lp : pl.length ≤ maxLen) (lw : ws.length ≤ maxLen) :
    Calls Try.prog 12 #[.agg #[.slice s.aJ s.js.length s.cJ, .slice s.aN s.ns.length s.cN], .agg #[.slice AP pl.length cP, .int .i64 k, .slice AW ws.length cW]] w fun e w' => e = .returned (.bool true) ∧ Below w.heap.size w w' := by
  obtain ⟨js, ns, aJ, cJ, aN, cN⟩ := s
  obtain ⟨hJ, hN, lj, ln⟩ := hS
  dsimp only at *
  unfold maxLen at lj ln lp lw
  have hk := (Blk.new w 25 #[.slice aJ js.length cJ, .slice aN ns.length cN]).alloc (.cells #[.slice AP pl.length cP, .int .i64 k, .slice AW ws.length cW] 72)
  have hm := Blk.new (w.alloc (.cells #[.slice aJ js.length cJ, .slice aN ns.length cN] 25)) 72 #[.slice AP pl.length cP, .int .i64 k, .slice AW ws.length cW]
  rw [show (w.alloc (.cells #[.slice aJ js.length cJ, .slice aN ns.length cN] 25)).heap.size = w.heap.size + 1 by simp] at hm
  have hB := ((Below.refl w.heap.size w).alloc (Nat.le_refl _) (.cells #[.slice aJ js.length cJ, .slice aN ns.length cN] 25)).alloc (by simp) (.cells #[.slice AP pl.length cP, .int .i64 k, .slice AW ws.length cW] 72)
  go_enter Try.func12, Try.ntmps12
  go_upto_region 1 with fail
  generalize (w.alloc (.cells #[.slice aJ js.length cJ, .slice aN ns.length cN] 25)).alloc (.cells #[.slice AP pl.length cP, .int .i64 k, .slice AW ws.length cW] 72) = W at *
  have c0 := hk.cell_ 0 rfl
  have c1 := hk.cell_ 1 rfl
  have m0 := hm.cell_ 0 rfl
  have m1 := hm.cell_ 1 rfl
  have m2 := hm.cell_ 2 rfl
  go_wp2_with fail
  refine (wide_any aJ cJ js aN cN ns 30 30 _).mono ?_
  rintro e W ⟨rfl, hb⟩
  clear c0 c1 m0 m1 m2
  replace hk := hk.below hb hk.lt
  replace hm := hm.below hb hm.lt
  replace hB := hB.trans (hb.mono hB.size)
  clear hb
  have c0 := hk.cell_ 0 rfl
  have c1 := hk.cell_ 1 rfl
  have m0 := hm.cell_ 0 rfl
  have m1 := hm.cell_ 1 rfl
  have m2 := hm.cell_ 2 rfl
  cases hw : wideB js ns 30 30
  case true =>
    go_wp2_with fail
    refine (awake_any _).mono ?_
    rintro e W ⟨rfl, hb⟩
    clear c0 c1 m0 m1 m2
    replace hk := hk.below hb hk.lt
    replace hm := hm.below hb hm.lt
    replace hB := hB.trans (hb.mono hB.size)
    clear hb
    have c0 := hk.cell_ 0 rfl
    have c1 := hk.cell_ 1 rfl
    have m0 := hm.cell_ 0 rfl
    have m1 := hm.cell_ 1 rfl
    have m2 := hm.cell_ 2 rfl
    go_wp2_with fail
    go_ret
    exact ⟨rfl, hB⟩
  obtain ⟨w1, w2⟩ := wideB_false (a := 30) (b := 30) hw
  clear hw
  by_cases hlp : (60 : Int) < (pl.length : Int)
  · go_wp2_with fail
    refine (awake_any _).mono ?_
    rintro e W ⟨rfl, hb⟩
    clear c0 c1 m0 m1 m2
    replace hk := hk.below hb hk.lt
    replace hm := hm.below hb hm.lt
    replace hB := hB.trans (hb.mono hB.size)
    clear hb
    have c0 := hk.cell_ 0 rfl
    have c1 := hk.cell_ 1 rfl
    have m0 := hm.cell_ 0 rfl
    have m1 := hm.cell_ 1 rfl
    have m2 := hm.cell_ 2 rfl
    go_wp2_with fail
    go_ret
    exact ⟨rfl, hB⟩
  by_cases hlw : (60 : Int) < (ws.length : Int)
  · go_wp2_with fail
    refine (awake_any _).mono ?_
    rintro e W ⟨rfl, hb⟩
    clear c0 c1 m0 m1 m2
    replace hk := hk.below hb hk.lt
    replace hm := hm.below hb hm.lt
    replace hB := hB.trans (hb.mono hB.size)
    clear hb
    have c0 := hk.cell_ 0 rfl
    have c1 := hk.cell_ 1 rfl
    have m0 := hm.cell_ 0 rfl
    have m1 := hm.cell_ 1 rfl
    have m2 := hm.cell_ 2 rfl
    go_wp2_with fail
    go_ret
    exact ⟨rfl, hB⟩
  have hp60 : pl.length ≤ 60 := by omega
  have hw60 : ws.length ≤ 60 := by omega
  go_wp2_with fail
  refine (apiRight_any aJ cJ js aN cN ns AP cP pl _ (hJ.on hB) (hN.on hB) (hP.on hB) (by omega) (by omega) (by omega)).mono ?_
  rintro e W ⟨rfl, hb⟩
  clear c0 c1 m0 m1 m2
  replace hk := hk.below hb hk.lt
  replace hm := hm.below hb hm.lt
  replace hB := hB.trans (hb.mono hB.size)
  clear hb
  have c0 := hk.cell_ 0 rfl
  have c1 := hk.cell_ 1 rfl
  have m0 := hm.cell_ 0 rfl
  have m1 := hm.cell_ 1 rfl
  have m2 := hm.cell_ 2 rfl
  go_wp2_with fail
  refine (refApiRight_any aJ cJ js aN cN ns AP cP pl _ (hJ.on hB) (hN.on hB) (hP.on hB) (by omega) (by omega) (by omega)).mono ?_
  rintro e W ⟨rfl, hb⟩
  clear c0 c1 m0 m1 m2
  replace hk := hk.below hb hk.lt
  replace hm := hm.below hb hm.lt
  replace hB := hB.trans (hb.mono hB.size)
  clear hb
  have c0 := hk.cell_ 0 rfl
  have c1 := hk.cell_ 1 rfl
  have m0 := hm.cell_ 0 rfl
  have m1 := hm.cell_ 1 rfl
  have m2 := hm.cell_ 2 rfl
  go_wp2_with fail
  refine (apiDone_any aJ cJ js aN cN ns AP cP pl _ (hJ.on hB) (hN.on hB) (hP.on hB) (by omega) (by omega) (by omega)).mono ?_
  rintro e W ⟨rfl, hb⟩
  clear c0 c1 m0 m1 m2
  replace hk := hk.below hb hk.lt
  replace hm := hm.below hb hm.lt
  replace hB := hB.trans (hb.mono hB.size)
  clear hb
  have c0 := hk.cell_ 0 rfl
  have c1 := hk.cell_ 1 rfl
  have m0 := hm.cell_ 0 rfl
  have m1 := hm.cell_ 1 rfl
  have m2 := hm.cell_ 2 rfl
  go_wp2_with fail
  refine (refDone_any aJ cJ js aN cN ns AP cP pl _ (hJ.on hB) (hN.on hB) (hP.on hB) (by omega) (by omega) (by omega)).mono ?_
  rintro e W ⟨rfl, hb⟩
  clear c0 c1 m0 m1 m2
  replace hk := hk.below hb hk.lt
  replace hm := hm.below hb hm.lt
  replace hB := hB.trans (hb.mono hB.size)
  clear hb
  have c0 := hk.cell_ 0 rfl
  have c1 := hk.cell_ 1 rfl
  have m0 := hm.cell_ 0 rfl
  have m1 := hm.cell_ 1 rfl
  have m2 := hm.cell_ 2 rfl
  generalize rOk js ns pl = v1 at *
  generalize rErr js ns pl = v2 at *
  generalize dVal js ns pl = v3 at *
  generalize pErr js ns pl = v4 at *
  have n1 : (v1 != v1) = false := by simp
  have n2 : (v2 != v2) = false := by simp
  have n3 : ((v3 : Int) != (v3 : Int)) = false := by simp
  have n4 : (v4 != v4) = false := by simp
  go_wp2_with fail
  refine (tour_any aJ cJ js aN cN ns AP cP pl k _ (hJ.on hB) (hN.on hB) (hP.on hB) (by omega) (by omega) (by omega)).mono ?_
  rintro e W ⟨A1, k1, rfl, hb, hT1⟩
  clear c0 c1 m0 m1 m2
  replace hk := hk.below hb hk.lt
  replace hm := hm.below hb hm.lt
  replace hB := hB.trans (hb.mono hB.size)
  clear hb
  have c0 := hk.cell_ 0 rfl
  have c1 := hk.cell_ 1 rfl
  have m0 := hm.cell_ 0 rfl
  have m1 := hm.cell_ 1 rfl
  have m2 := hm.cell_ 2 rfl
  go_wp2_with fail
  refine (refTour_any aJ cJ js aN cN ns AP cP pl k _ (hJ.on hB) (hN.on hB) (hP.on hB) (by omega) (by omega) (by omega)).mono ?_
  rintro e W ⟨A2, k2, rfl, hb, hT2⟩
  clear c0 c1 m0 m1 m2
  replace hk := hk.below hb hk.lt
  replace hm := hm.below hb hm.lt
  replace hT1 := Slc.on hT1 hb
  replace hB := hB.trans (hb.mono hB.size)
  clear hb
  have c0 := hk.cell_ 0 rfl
  have c1 := hk.cell_ 1 rfl
  have m0 := hm.cell_ 0 rfl
  have m1 := hm.cell_ 1 rfl
  have m2 := hm.cell_ 2 rfl
  have hTl := tourT_len js ns pl k
  generalize tourT js ns pl k = T at *
  generalize tourE js ns pl k = v5 at *
  generalize farF js T = v6 at *
  go_wp2_with fail
  refine (apiLate_any aJ cJ js aN cN ns AP cP pl AW cW ws _ (hJ.on hB) (hN.on hB) (hP.on hB) (hW.on hB) (by omega) (by omega) (by omega) (by omega)).mono ?_
  rintro e W ⟨rfl, hb⟩
  clear c0 c1 m0 m1 m2
  replace hk := hk.below hb hk.lt
  replace hm := hm.below hb hm.lt
  replace hT1 := Slc.on hT1 hb
  replace hT2 := Slc.on hT2 hb
  replace hB := hB.trans (hb.mono hB.size)
  clear hb
  have c0 := hk.cell_ 0 rfl
  have c1 := hk.cell_ 1 rfl
  have m0 := hm.cell_ 0 rfl
  have m1 := hm.cell_ 1 rfl
  have m2 := hm.cell_ 2 rfl
  go_wp2_with fail
  refine (refLate_any aJ cJ js aN cN ns AP cP pl AW cW ws _ (hJ.on hB) (hN.on hB) (hP.on hB) (hW.on hB) (by omega) (by omega) (by omega) (by omega)).mono ?_
  rintro e W ⟨rfl, hb⟩
  clear c0 c1 m0 m1 m2
  replace hk := hk.below hb hk.lt
  replace hm := hm.below hb hm.lt
  replace hT1 := Slc.on hT1 hb
  replace hT2 := Slc.on hT2 hb
  replace hB := hB.trans (hb.mono hB.size)
  clear hb
  have c0 := hk.cell_ 0 rfl
  have c1 := hk.cell_ 1 rfl
  have m0 := hm.cell_ 0 rfl
  have m1 := hm.cell_ 1 rfl
  have m2 := hm.cell_ 2 rfl
  generalize lateV js ns pl ws = v7 at *
  generalize lateE js ns pl ws = v8 at *
  go_wp2_with fail
  refine (same_yes A1 k1 T A2 k2 _ _ _ hT1 hT2 (by omega)).mono ?_
  rintro e W ⟨rfl, hb⟩
  clear c0 c1 m0 m1 m2
  replace hk := hk.below hb hk.lt
  replace hm := hm.below hb hm.lt
  replace hT1 := Slc.on hT1 hb
  replace hT2 := Slc.on hT2 hb
  replace hB := hB.trans (hb.mono hB.size)
  clear hb
  have c0 := hk.cell_ 0 rfl
  have c1 := hk.cell_ 1 rfl
  have m0 := hm.cell_ 0 rfl
  have m1 := hm.cell_ 1 rfl
  have m2 := hm.cell_ 2 rfl
  go_wp2_with fail
  refine (awake_any _).mono ?_
  rintro e W ⟨rfl, hb⟩
  clear c0 c1 m0 m1 m2
  replace hk := hk.below hb hk.lt
  replace hm := hm.below hb hm.lt
  replace hT1 := Slc.on hT1 hb
  replace hT2 := Slc.on hT2 hb
  replace hB := hB.trans (hb.mono hB.size)
  clear hb
  have c0 := hk.cell_ 0 rfl
  have c1 := hk.cell_ 1 rfl
  have m0 := hm.cell_ 0 rfl
  have m1 := hm.cell_ 1 rfl
  have m2 := hm.cell_ 2 rfl
  go_wp2_with fail
  go_ret
  exact ⟨rfl, hB⟩
end Go.Proofs.Ytfhlopegmfdkpaa
