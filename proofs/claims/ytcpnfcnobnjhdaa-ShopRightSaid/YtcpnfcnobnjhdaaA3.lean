/- Parts of the proofs of this seat: ShopLaws1, Chain, Own, List, Load, PlanP, ShopTimes. Each part says what it proves; no condition beyond those stated there. -/
import Derived.Deep.AppendLies
import Derived.Test.YtcpnfcnobnjhdaaA2

/- The laws ShopNexts, ShopAfter, ShopWorked: the walks. -/
namespace Go.Proofs.Ytcpnfcnobnjhdaa
open Go.RowKit
theorem shcells {s : Sh} {w : World} {g : Nat} (h : Blk w g 25 #[.int .i64 s.p.op, .int .i64 s.p.cl, .slice s.aH s.p.hol.length s.cH, .int .i64 s.p.mach, .slice s.aS s.p.setup.length s.cS, .slice s.aJ s.p.jobs.length s.cJ]) :
    w.cell? ⟨g, 0, none⟩ = some (.int .i64 s.p.op) ∧ w.cell? ⟨g, 1, none⟩ = some (.int .i64 s.p.cl) ∧ w.cell? ⟨g, 2, none⟩ = some (.slice s.aH s.p.hol.length s.cH) ∧
    w.cell? ⟨g, 3, none⟩ = some (.int .i64 s.p.mach) ∧ w.cell? ⟨g, 4, none⟩ = some (.slice s.aS s.p.setup.length s.cS) ∧ w.cell? ⟨g, 5, none⟩ = some (.slice s.aJ s.p.jobs.length s.cJ) :=
  ⟨h.cell_ 0 rfl, h.cell_ 1 rfl, h.cell_ 2 rfl, h.cell_ 3 rfl, h.cell_ 4 rfl, h.cell_ 5 rfl⟩

set_option maxRecDepth 100000 in
theorem nexts_walk (s : Sh) (t m : Int) (w : World) (hS : ShAt w w.heap.size s) (hf : Fits s.p) (tl : -9223372036854775808 ≤ t) (th : t ≤ 9223372036854775807) (ml : -9223372036854775808 ≤ m) (mh : m ≤ 9223372036854775807) :
    Calls Try.prog 3 #[.agg #[.int .i64 s.p.op, .int .i64 s.p.cl, .slice s.aH s.p.hol.length s.cH, .int .i64 s.p.mach, .slice s.aS s.p.setup.length s.cS, .slice s.aJ s.p.jobs.length s.cJ], .int .i64 t, .int .i64 m] w fun e w' => e = .returned (.bool true) ∧ Below w.heap.size w w' := by
  have hk := Blk.new w 25 #[.int .i64 s.p.op, .int .i64 s.p.cl, .slice s.aH s.p.hol.length s.cH, .int .i64 s.p.mach, .slice s.aS s.p.setup.length s.cS, .slice s.aJ s.p.jobs.length s.cJ]
  have hw := (Below.refl w.heap.size w).alloc (Nat.le_refl _) (.cells #[.int .i64 s.p.op, .int .i64 s.p.cl, .slice s.aH s.p.hol.length s.cH, .int .i64 s.p.mach, .slice s.aS s.p.setup.length s.cS, .slice s.aJ s.p.jobs.length s.cJ] 25)
  go_enter Try.func3, Try.ntmps3
  go_wp2_with fail
  generalize w.alloc (.cells #[.int .i64 s.p.op, .int .i64 s.p.cl, .slice s.aH s.p.hol.length s.cH, .int .i64 s.p.mach, .slice s.aS s.p.setup.length s.cS, .slice s.aJ s.p.jobs.length s.cJ] 25) = W at *
  refine (long_any s W (hS.on hw) hf.h1 hf.h2 hf.h3 hf.h4).mono ?_
  rintro e w2 ⟨rfl, hb⟩
  have hb2 := hw.trans (hb.mono hw.size)
  have hk2 := hk.below hb hk.lt
  have c0 := hk2.cell_ 0 rfl
  have c1 := hk2.cell_ 1 rfl
  have c2 := hk2.cell_ 2 rfl
  have c3 := hk2.cell_ 3 rfl
  have c4 := hk2.cell_ 4 rfl
  have c5 := hk2.cell_ 5 rfl
  cases hl : longB s.p
  · go_wp2_with fail
    refine (refValid_any s w2 (hS.on hb2) hf.h1 hf.h2 hf.h3 hf.h4).mono ?_
    rintro e w3 ⟨rfl, hb⟩
    have hb3 := hb2.trans (hb.mono hb2.size)
    have hk3 := hk2.below hb hk2.lt
    cases hvB : validShop s.p
    · go_wp2_with fail
      refine (first_any _).mono ?_
      rintro e w4 ⟨rfl, hb⟩
      have hb4 := hb3.trans (hb.mono hb3.size)
      go_wp2_with fail
      go_ret
      exact ⟨rfl, hb4⟩
    · have hv := valid_facts hvB
      have v1 := hv.op0
      have v2 := hv.opcl
      have v3 := hv.cl
      clear c0 c1 c2 c3 c4 c5
      have c0 := hk3.cell_ 0 rfl
      have c1 := hk3.cell_ 1 rfl
      have c2 := hk3.cell_ 2 rfl
      have c3 := hk3.cell_ 3 rfl
      have c4 := hk3.cell_ 4 rfl
      have c5 := hk3.cell_ 5 rfl
      go_wp2_with fail
      refine (apiNext_any s t m _ (hS.on hb3) hvB).mono ?_
      rintro e w4 ⟨rfl, hb⟩
      have hb4 := hb3.trans (hb.mono hb3.size)
      have hk4 := hk3.below hb hk3.lt
      clear c0 c1 c2 c3 c4 c5
      have c0 := hk4.cell_ 0 rfl
      have c1 := hk4.cell_ 1 rfl
      have c2 := hk4.cell_ 2 rfl
      have c3 := hk4.cell_ 3 rfl
      have c4 := hk4.cell_ 4 rfl
      have c5 := hk4.cell_ 5 rfl
      by_cases t0 : t < 0
      · rw [nextV_no (.inl (inB_false.2 (by omega)))]
        go_wp2_with fail
        refine (first_any _).mono ?_
        rintro e w5 ⟨rfl, hb⟩
        go_wp2_with fail
        go_ret
        exact ⟨rfl, hb4.trans (hb.mono hb4.size)⟩
      by_cases t1 : 100000000 < t
      · rw [nextV_no (.inl (inB_false.2 (by omega)))]
        go_wp2_with fail
        refine (first_any _).mono ?_
        rintro e w5 ⟨rfl, hb⟩
        go_wp2_with fail
        go_ret
        exact ⟨rfl, hb4.trans (hb.mono hb4.size)⟩
      by_cases m0 : m < 1
      · rw [nextV_no (.inr (inB_false.2 (by omega)))]
        go_wp2_with fail
        refine (first_any _).mono ?_
        rintro e w5 ⟨rfl, hb⟩
        go_wp2_with fail
        go_ret
        exact ⟨rfl, hb4.trans (hb.mono hb4.size)⟩
      by_cases m1 : s.p.cl - s.p.op < m
      · rw [nextV_no (.inr (inB_false.2 (by omega)))]
        go_wp2_with fail
        refine (first_any _).mono ?_
        rintro e w5 ⟨rfl, hb⟩
        go_wp2_with fail
        go_ret
        exact ⟨rfl, hb4.trans (hb.mono hb4.size)⟩
      rw [nextV_ok (by omega) (by omega) (by omega) (by omega)]
      go_wp2_with fail
      refine (refNext_any s t m _ (hS.on hb4) hv (by omega) (by omega) (by omega) (by omega)).mono ?_
      rintro e w5 ⟨rfl, hb⟩
      have hb5 := hb4.trans (hb.mono hb4.size)
      go_wp2_with fail
      refine (first_any _).mono ?_
      rintro e w6 ⟨rfl, hb⟩
      go_wp2_with fail
      go_ret
      exact ⟨rfl, hb5.trans (hb.mono hb5.size)⟩
  · go_wp2_with fail
    refine (first_any _).mono ?_
    rintro e w4 ⟨rfl, hb⟩
    go_wp2_with fail
    go_ret
    exact ⟨rfl, hb2.trans (hb.mono hb2.size)⟩

set_option maxRecDepth 100000 in
set_option maxHeartbeats 1000000 in
theorem after_walk (s : Sh) (t m : Int) (w : World) (hS : ShAt w w.heap.size s) (hf : Fits s.p) (tl : -9223372036854775808 ≤ t) (th : t ≤ 9223372036854775807) (ml : -9223372036854775808 ≤ m) (mh : m ≤ 9223372036854775807) :
    Calls Try.prog 4 #[.agg #[.int .i64 s.p.op, .int .i64 s.p.cl, .slice s.aH s.p.hol.length s.cH, .int .i64 s.p.mach, .slice s.aS s.p.setup.length s.cS, .slice s.aJ s.p.jobs.length s.cJ], .int .i64 t, .int .i64 m] w fun e w' => e = .returned (.bool true) ∧ Below w.heap.size w w' := by
  have hk := Blk.new w 25 #[.int .i64 s.p.op, .int .i64 s.p.cl, .slice s.aH s.p.hol.length s.cH, .int .i64 s.p.mach, .slice s.aS s.p.setup.length s.cS, .slice s.aJ s.p.jobs.length s.cJ]
  have hw := (Below.refl w.heap.size w).alloc (Nat.le_refl _) (.cells #[.int .i64 s.p.op, .int .i64 s.p.cl, .slice s.aH s.p.hol.length s.cH, .int .i64 s.p.mach, .slice s.aS s.p.setup.length s.cS, .slice s.aJ s.p.jobs.length s.cJ] 25)
  by_cases t0 : t < 0
  · go_enter Try.func4, Try.ntmps4
    go_wp2_with fail
    generalize w.alloc (.cells #[.int .i64 s.p.op, .int .i64 s.p.cl, .slice s.aH s.p.hol.length s.cH, .int .i64 s.p.mach, .slice s.aS s.p.setup.length s.cS, .slice s.aJ s.p.jobs.length s.cJ] 25) = W at *
    refine (long_any s W (hS.on hw) hf.h1 hf.h2 hf.h3 hf.h4).mono ?_
    rintro e w2 ⟨rfl, hb⟩
    have hb2 := hw.trans (hb.mono hw.size)
    have hk2 := hk.below hb hk.lt
    obtain ⟨c0, c1, c2, c3, c4, c5⟩ := shcells hk2
    cases hl : longB s.p
    · go_wp2_with fail
      refine (refValid_any s w2 (hS.on hb2) hf.h1 hf.h2 hf.h3 hf.h4).mono ?_
      rintro e w3 ⟨rfl, hb⟩
      have hb3 := hb2.trans (hb.mono hb2.size)
      have hk3 := hk2.below hb hk2.lt
      clear c0 c1 c2 c3 c4 c5
      obtain ⟨c0, c1, c2, c3, c4, c5⟩ := shcells hk3
      cases hvB : validShop s.p
      · go_wp2_with fail
        refine (first_any _).mono ?_
        rintro e w9 ⟨rfl, hb9⟩
        go_wp2_with fail
        go_ret
        exact ⟨rfl, hb3.trans (hb9.mono hb3.size)⟩
      · have hv := valid_facts hvB
        have v1 := hv.op0
        have v2 := hv.opcl
        have v3 := hv.cl
        go_wp2_with fail
        refine (apiAfter_any s t m _ (hS.on hb3) hvB).mono ?_
        rintro e w4 ⟨rfl, hb⟩
        have hb4 := hb3.trans (hb.mono hb3.size)
        rw [afterV_no (.inl (inB_false.2 (by omega)))]
        go_wp2_with fail
        refine (first_any _).mono ?_
        rintro e w9 ⟨rfl, hb9⟩
        go_wp2_with fail
        go_ret
        exact ⟨rfl, hb4.trans (hb9.mono hb4.size)⟩
    · go_wp2_with fail
      refine (first_any _).mono ?_
      rintro e w9 ⟨rfl, hb9⟩
      go_wp2_with fail
      go_ret
      exact ⟨rfl, hb2.trans (hb9.mono hb2.size)⟩
  by_cases t1 : 100000000 < t
  · go_enter Try.func4, Try.ntmps4
    go_wp2_with fail
    generalize w.alloc (.cells #[.int .i64 s.p.op, .int .i64 s.p.cl, .slice s.aH s.p.hol.length s.cH, .int .i64 s.p.mach, .slice s.aS s.p.setup.length s.cS, .slice s.aJ s.p.jobs.length s.cJ] 25) = W at *
    refine (long_any s W (hS.on hw) hf.h1 hf.h2 hf.h3 hf.h4).mono ?_
    rintro e w2 ⟨rfl, hb⟩
    have hb2 := hw.trans (hb.mono hw.size)
    have hk2 := hk.below hb hk.lt
    obtain ⟨c0, c1, c2, c3, c4, c5⟩ := shcells hk2
    cases hl : longB s.p
    · go_wp2_with fail
      refine (refValid_any s w2 (hS.on hb2) hf.h1 hf.h2 hf.h3 hf.h4).mono ?_
      rintro e w3 ⟨rfl, hb⟩
      have hb3 := hb2.trans (hb.mono hb2.size)
      have hk3 := hk2.below hb hk2.lt
      clear c0 c1 c2 c3 c4 c5
      obtain ⟨c0, c1, c2, c3, c4, c5⟩ := shcells hk3
      cases hvB : validShop s.p
      · go_wp2_with fail
        refine (first_any _).mono ?_
        rintro e w9 ⟨rfl, hb9⟩
        go_wp2_with fail
        go_ret
        exact ⟨rfl, hb3.trans (hb9.mono hb3.size)⟩
      · have hv := valid_facts hvB
        have v1 := hv.op0
        have v2 := hv.opcl
        have v3 := hv.cl
        go_wp2_with fail
        refine (apiAfter_any s t m _ (hS.on hb3) hvB).mono ?_
        rintro e w4 ⟨rfl, hb⟩
        have hb4 := hb3.trans (hb.mono hb3.size)
        rw [afterV_no (.inl (inB_false.2 (by omega)))]
        go_wp2_with fail
        refine (first_any _).mono ?_
        rintro e w9 ⟨rfl, hb9⟩
        go_wp2_with fail
        go_ret
        exact ⟨rfl, hb4.trans (hb9.mono hb4.size)⟩
    · go_wp2_with fail
      refine (first_any _).mono ?_
      rintro e w9 ⟨rfl, hb9⟩
      go_wp2_with fail
      go_ret
      exact ⟨rfl, hb2.trans (hb9.mono hb2.size)⟩
  by_cases m0 : m < 0
  · go_enter Try.func4, Try.ntmps4
    go_wp2_with fail
    generalize w.alloc (.cells #[.int .i64 s.p.op, .int .i64 s.p.cl, .slice s.aH s.p.hol.length s.cH, .int .i64 s.p.mach, .slice s.aS s.p.setup.length s.cS, .slice s.aJ s.p.jobs.length s.cJ] 25) = W at *
    refine (long_any s W (hS.on hw) hf.h1 hf.h2 hf.h3 hf.h4).mono ?_
    rintro e w2 ⟨rfl, hb⟩
    have hb2 := hw.trans (hb.mono hw.size)
    have hk2 := hk.below hb hk.lt
    obtain ⟨c0, c1, c2, c3, c4, c5⟩ := shcells hk2
    cases hl : longB s.p
    · go_wp2_with fail
      refine (refValid_any s w2 (hS.on hb2) hf.h1 hf.h2 hf.h3 hf.h4).mono ?_
      rintro e w3 ⟨rfl, hb⟩
      have hb3 := hb2.trans (hb.mono hb2.size)
      have hk3 := hk2.below hb hk2.lt
      clear c0 c1 c2 c3 c4 c5
      obtain ⟨c0, c1, c2, c3, c4, c5⟩ := shcells hk3
      cases hvB : validShop s.p
      · go_wp2_with fail
        refine (first_any _).mono ?_
        rintro e w9 ⟨rfl, hb9⟩
        go_wp2_with fail
        go_ret
        exact ⟨rfl, hb3.trans (hb9.mono hb3.size)⟩
      · have hv := valid_facts hvB
        have v1 := hv.op0
        have v2 := hv.opcl
        have v3 := hv.cl
        go_wp2_with fail
        refine (apiAfter_any s t m _ (hS.on hb3) hvB).mono ?_
        rintro e w4 ⟨rfl, hb⟩
        have hb4 := hb3.trans (hb.mono hb3.size)
        rw [afterV_no (.inr (inB_false.2 (by omega)))]
        go_wp2_with fail
        refine (first_any _).mono ?_
        rintro e w9 ⟨rfl, hb9⟩
        go_wp2_with fail
        go_ret
        exact ⟨rfl, hb4.trans (hb9.mono hb4.size)⟩
    · go_wp2_with fail
      refine (first_any _).mono ?_
      rintro e w9 ⟨rfl, hb9⟩
      go_wp2_with fail
      go_ret
      exact ⟨rfl, hb2.trans (hb9.mono hb2.size)⟩
  by_cases m1 : 1000000 < m
  · go_enter Try.func4, Try.ntmps4
    go_wp2_with fail
    generalize w.alloc (.cells #[.int .i64 s.p.op, .int .i64 s.p.cl, .slice s.aH s.p.hol.length s.cH, .int .i64 s.p.mach, .slice s.aS s.p.setup.length s.cS, .slice s.aJ s.p.jobs.length s.cJ] 25) = W at *
    refine (long_any s W (hS.on hw) hf.h1 hf.h2 hf.h3 hf.h4).mono ?_
    rintro e w2 ⟨rfl, hb⟩
    have hb2 := hw.trans (hb.mono hw.size)
    have hk2 := hk.below hb hk.lt
    obtain ⟨c0, c1, c2, c3, c4, c5⟩ := shcells hk2
    cases hl : longB s.p
    · go_wp2_with fail
      refine (refValid_any s w2 (hS.on hb2) hf.h1 hf.h2 hf.h3 hf.h4).mono ?_
      rintro e w3 ⟨rfl, hb⟩
      have hb3 := hb2.trans (hb.mono hb2.size)
      have hk3 := hk2.below hb hk2.lt
      clear c0 c1 c2 c3 c4 c5
      obtain ⟨c0, c1, c2, c3, c4, c5⟩ := shcells hk3
      cases hvB : validShop s.p
      · go_wp2_with fail
        refine (first_any _).mono ?_
        rintro e w9 ⟨rfl, hb9⟩
        go_wp2_with fail
        go_ret
        exact ⟨rfl, hb3.trans (hb9.mono hb3.size)⟩
      · have hv := valid_facts hvB
        have v1 := hv.op0
        have v2 := hv.opcl
        have v3 := hv.cl
        go_wp2_with fail
        refine (apiAfter_any s t m _ (hS.on hb3) hvB).mono ?_
        rintro e w4 ⟨rfl, hb⟩
        have hb4 := hb3.trans (hb.mono hb3.size)
        rw [afterV_no (.inr (inB_false.2 (by omega)))]
        go_wp2_with fail
        refine (first_any _).mono ?_
        rintro e w9 ⟨rfl, hb9⟩
        go_wp2_with fail
        go_ret
        exact ⟨rfl, hb4.trans (hb9.mono hb4.size)⟩
    · go_wp2_with fail
      refine (first_any _).mono ?_
      rintro e w9 ⟨rfl, hb9⟩
      go_wp2_with fail
      go_ret
      exact ⟨rfl, hb2.trans (hb9.mono hb2.size)⟩
  by_cases hcut : 20000 < m
  · go_enter Try.func4, Try.ntmps4
    go_wp2_with fail
    generalize w.alloc (.cells #[.int .i64 s.p.op, .int .i64 s.p.cl, .slice s.aH s.p.hol.length s.cH, .int .i64 s.p.mach, .slice s.aS s.p.setup.length s.cS, .slice s.aJ s.p.jobs.length s.cJ] 25) = W at *
    refine (long_any s W (hS.on hw) hf.h1 hf.h2 hf.h3 hf.h4).mono ?_
    rintro e w2 ⟨rfl, hb⟩
    have hb2 := hw.trans (hb.mono hw.size)
    have hk2 := hk.below hb hk.lt
    obtain ⟨c0, c1, c2, c3, c4, c5⟩ := shcells hk2
    cases hl : longB s.p
    · go_wp2_with fail
      refine (refValid_any s w2 (hS.on hb2) hf.h1 hf.h2 hf.h3 hf.h4).mono ?_
      rintro e w3 ⟨rfl, hb⟩
      have hb3 := hb2.trans (hb.mono hb2.size)
      have hk3 := hk2.below hb hk2.lt
      clear c0 c1 c2 c3 c4 c5
      obtain ⟨c0, c1, c2, c3, c4, c5⟩ := shcells hk3
      cases hvB : validShop s.p
      · go_wp2_with fail
        refine (first_any _).mono ?_
        rintro e w9 ⟨rfl, hb9⟩
        go_wp2_with fail
        go_ret
        exact ⟨rfl, hb3.trans (hb9.mono hb3.size)⟩
      · have hv := valid_facts hvB
        have v1 := hv.op0
        have v2 := hv.opcl
        have v3 := hv.cl
        go_wp2_with fail
        refine (first_any _).mono ?_
        rintro e w9 ⟨rfl, hb9⟩
        go_wp2_with fail
        go_ret
        exact ⟨rfl, hb3.trans (hb9.mono hb3.size)⟩
    · go_wp2_with fail
      refine (first_any _).mono ?_
      rintro e w9 ⟨rfl, hb9⟩
      go_wp2_with fail
      go_ret
      exact ⟨rfl, hb2.trans (hb9.mono hb2.size)⟩
  go_enter Try.func4, Try.ntmps4
  go_wp2_with fail
  generalize w.alloc (.cells #[.int .i64 s.p.op, .int .i64 s.p.cl, .slice s.aH s.p.hol.length s.cH, .int .i64 s.p.mach, .slice s.aS s.p.setup.length s.cS, .slice s.aJ s.p.jobs.length s.cJ] 25) = W at *
  refine (long_any s W (hS.on hw) hf.h1 hf.h2 hf.h3 hf.h4).mono ?_
  rintro e w2 ⟨rfl, hb⟩
  have hb2 := hw.trans (hb.mono hw.size)
  have hk2 := hk.below hb hk.lt
  obtain ⟨c0, c1, c2, c3, c4, c5⟩ := shcells hk2
  cases hl : longB s.p
  · go_wp2_with fail
    refine (refValid_any s w2 (hS.on hb2) hf.h1 hf.h2 hf.h3 hf.h4).mono ?_
    rintro e w3 ⟨rfl, hb⟩
    have hb3 := hb2.trans (hb.mono hb2.size)
    have hk3 := hk2.below hb hk2.lt
    clear c0 c1 c2 c3 c4 c5
    obtain ⟨c0, c1, c2, c3, c4, c5⟩ := shcells hk3
    cases hvB : validShop s.p
    · go_wp2_with fail
      refine (first_any _).mono ?_
      rintro e w9 ⟨rfl, hb9⟩
      go_wp2_with fail
      go_ret
      exact ⟨rfl, hb3.trans (hb9.mono hb3.size)⟩
    · have hv := valid_facts hvB
      have v1 := hv.op0
      have v2 := hv.opcl
      have v3 := hv.cl
      go_wp2_with fail
      refine (apiAfter_any s t m _ (hS.on hb3) hvB).mono ?_
      rintro e w4 ⟨rfl, hb⟩
      have hb4 := hb3.trans (hb.mono hb3.size)
      have hk4 := hk3.below hb hk3.lt
      clear c0 c1 c2 c3 c4 c5
      obtain ⟨c0, c1, c2, c3, c4, c5⟩ := shcells hk4
      rw [afterV_ok (by omega) (by omega) (by omega) (by omega)]
      go_wp2_with fail
      refine (refAfter_any s t m _ (hS.on hb4) hv (by omega) (by omega) (by omega) (by omega)).mono ?_
      rintro e w5 ⟨rfl, hb⟩
      have hb5 := hb4.trans (hb.mono hb4.size)
      go_wp2_with fail
      refine (first_any _).mono ?_
      rintro e w9 ⟨rfl, hb9⟩
      go_wp2_with fail
      go_ret
      exact ⟨rfl, hb5.trans (hb9.mono hb5.size)⟩
  · go_wp2_with fail
    refine (first_any _).mono ?_
    rintro e w9 ⟨rfl, hb9⟩
    go_wp2_with fail
    go_ret
    exact ⟨rfl, hb2.trans (hb9.mono hb2.size)⟩

set_option maxRecDepth 100000 in
set_option maxHeartbeats 1000000 in
theorem worked_walk (s : Sh) (t m : Int) (w : World) (hS : ShAt w w.heap.size s) (hf : Fits s.p) (tl : -9223372036854775808 ≤ t) (th : t ≤ 9223372036854775807) (ml : -9223372036854775808 ≤ m) (mh : m ≤ 9223372036854775807) :
    Calls Try.prog 5 #[.agg #[.int .i64 s.p.op, .int .i64 s.p.cl, .slice s.aH s.p.hol.length s.cH, .int .i64 s.p.mach, .slice s.aS s.p.setup.length s.cS, .slice s.aJ s.p.jobs.length s.cJ], .int .i64 t, .int .i64 m] w fun e w' => e = .returned (.bool true) ∧ Below w.heap.size w w' := by
  have hk := Blk.new w 25 #[.int .i64 s.p.op, .int .i64 s.p.cl, .slice s.aH s.p.hol.length s.cH, .int .i64 s.p.mach, .slice s.aS s.p.setup.length s.cS, .slice s.aJ s.p.jobs.length s.cJ]
  have hw := (Below.refl w.heap.size w).alloc (Nat.le_refl _) (.cells #[.int .i64 s.p.op, .int .i64 s.p.cl, .slice s.aH s.p.hol.length s.cH, .int .i64 s.p.mach, .slice s.aS s.p.setup.length s.cS, .slice s.aJ s.p.jobs.length s.cJ] 25)
  by_cases t0 : t < 0
  · go_enter Try.func5, Try.ntmps5
    go_wp2_with fail
    generalize w.alloc (.cells #[.int .i64 s.p.op, .int .i64 s.p.cl, .slice s.aH s.p.hol.length s.cH, .int .i64 s.p.mach, .slice s.aS s.p.setup.length s.cS, .slice s.aJ s.p.jobs.length s.cJ] 25) = W at *
    refine (long_any s W (hS.on hw) hf.h1 hf.h2 hf.h3 hf.h4).mono ?_
    rintro e w2 ⟨rfl, hb⟩
    have hb2 := hw.trans (hb.mono hw.size)
    have hk2 := hk.below hb hk.lt
    obtain ⟨c0, c1, c2, c3, c4, c5⟩ := shcells hk2
    cases hl : longB s.p
    · go_wp2_with fail
      refine (refValid_any s w2 (hS.on hb2) hf.h1 hf.h2 hf.h3 hf.h4).mono ?_
      rintro e w3 ⟨rfl, hb⟩
      have hb3 := hb2.trans (hb.mono hb2.size)
      have hk3 := hk2.below hb hk2.lt
      clear c0 c1 c2 c3 c4 c5
      obtain ⟨c0, c1, c2, c3, c4, c5⟩ := shcells hk3
      cases hvB : validShop s.p
      · go_wp2_with fail
        refine (first_any _).mono ?_
        rintro e w9 ⟨rfl, hb9⟩
        go_wp2_with fail
        go_ret
        exact ⟨rfl, hb3.trans (hb9.mono hb3.size)⟩
      · have hv := valid_facts hvB
        have v1 := hv.op0
        have v2 := hv.opcl
        have v3 := hv.cl
        go_wp2_with fail
        refine (apiWorked_err s t m _ (hS.on hb3) hvB (by omega)).mono ?_
        rintro e w4 ⟨rfl, hb⟩
        have hb4 := hb3.trans (hb.mono hb3.size)
        go_wp2_with fail
        refine (first_any _).mono ?_
        rintro e w9 ⟨rfl, hb9⟩
        go_wp2_with fail
        go_ret
        exact ⟨rfl, hb4.trans (hb9.mono hb4.size)⟩
    · go_wp2_with fail
      refine (first_any _).mono ?_
      rintro e w9 ⟨rfl, hb9⟩
      go_wp2_with fail
      go_ret
      exact ⟨rfl, hb2.trans (hb9.mono hb2.size)⟩
  by_cases t1 : m < t
  · go_enter Try.func5, Try.ntmps5
    go_wp2_with fail
    generalize w.alloc (.cells #[.int .i64 s.p.op, .int .i64 s.p.cl, .slice s.aH s.p.hol.length s.cH, .int .i64 s.p.mach, .slice s.aS s.p.setup.length s.cS, .slice s.aJ s.p.jobs.length s.cJ] 25) = W at *
    refine (long_any s W (hS.on hw) hf.h1 hf.h2 hf.h3 hf.h4).mono ?_
    rintro e w2 ⟨rfl, hb⟩
    have hb2 := hw.trans (hb.mono hw.size)
    have hk2 := hk.below hb hk.lt
    obtain ⟨c0, c1, c2, c3, c4, c5⟩ := shcells hk2
    cases hl : longB s.p
    · go_wp2_with fail
      refine (refValid_any s w2 (hS.on hb2) hf.h1 hf.h2 hf.h3 hf.h4).mono ?_
      rintro e w3 ⟨rfl, hb⟩
      have hb3 := hb2.trans (hb.mono hb2.size)
      have hk3 := hk2.below hb hk2.lt
      clear c0 c1 c2 c3 c4 c5
      obtain ⟨c0, c1, c2, c3, c4, c5⟩ := shcells hk3
      cases hvB : validShop s.p
      · go_wp2_with fail
        refine (first_any _).mono ?_
        rintro e w9 ⟨rfl, hb9⟩
        go_wp2_with fail
        go_ret
        exact ⟨rfl, hb3.trans (hb9.mono hb3.size)⟩
      · have hv := valid_facts hvB
        have v1 := hv.op0
        have v2 := hv.opcl
        have v3 := hv.cl
        go_wp2_with fail
        refine (apiWorked_err s t m _ (hS.on hb3) hvB (by omega)).mono ?_
        rintro e w4 ⟨rfl, hb⟩
        have hb4 := hb3.trans (hb.mono hb3.size)
        go_wp2_with fail
        refine (first_any _).mono ?_
        rintro e w9 ⟨rfl, hb9⟩
        go_wp2_with fail
        go_ret
        exact ⟨rfl, hb4.trans (hb9.mono hb4.size)⟩
    · go_wp2_with fail
      refine (first_any _).mono ?_
      rintro e w9 ⟨rfl, hb9⟩
      go_wp2_with fail
      go_ret
      exact ⟨rfl, hb2.trans (hb9.mono hb2.size)⟩
  by_cases m0 : 100000000 < m
  · go_enter Try.func5, Try.ntmps5
    go_wp2_with fail
    generalize w.alloc (.cells #[.int .i64 s.p.op, .int .i64 s.p.cl, .slice s.aH s.p.hol.length s.cH, .int .i64 s.p.mach, .slice s.aS s.p.setup.length s.cS, .slice s.aJ s.p.jobs.length s.cJ] 25) = W at *
    refine (long_any s W (hS.on hw) hf.h1 hf.h2 hf.h3 hf.h4).mono ?_
    rintro e w2 ⟨rfl, hb⟩
    have hb2 := hw.trans (hb.mono hw.size)
    have hk2 := hk.below hb hk.lt
    obtain ⟨c0, c1, c2, c3, c4, c5⟩ := shcells hk2
    cases hl : longB s.p
    · go_wp2_with fail
      refine (refValid_any s w2 (hS.on hb2) hf.h1 hf.h2 hf.h3 hf.h4).mono ?_
      rintro e w3 ⟨rfl, hb⟩
      have hb3 := hb2.trans (hb.mono hb2.size)
      have hk3 := hk2.below hb hk2.lt
      clear c0 c1 c2 c3 c4 c5
      obtain ⟨c0, c1, c2, c3, c4, c5⟩ := shcells hk3
      cases hvB : validShop s.p
      · go_wp2_with fail
        refine (first_any _).mono ?_
        rintro e w9 ⟨rfl, hb9⟩
        go_wp2_with fail
        go_ret
        exact ⟨rfl, hb3.trans (hb9.mono hb3.size)⟩
      · have hv := valid_facts hvB
        have v1 := hv.op0
        have v2 := hv.opcl
        have v3 := hv.cl
        go_wp2_with fail
        refine (apiWorked_err s t m _ (hS.on hb3) hvB (by omega)).mono ?_
        rintro e w4 ⟨rfl, hb⟩
        have hb4 := hb3.trans (hb.mono hb3.size)
        go_wp2_with fail
        refine (first_any _).mono ?_
        rintro e w9 ⟨rfl, hb9⟩
        go_wp2_with fail
        go_ret
        exact ⟨rfl, hb4.trans (hb9.mono hb4.size)⟩
    · go_wp2_with fail
      refine (first_any _).mono ?_
      rintro e w9 ⟨rfl, hb9⟩
      go_wp2_with fail
      go_ret
      exact ⟨rfl, hb2.trans (hb9.mono hb2.size)⟩
  by_cases hcut : 3000000 < m - t
  · go_enter Try.func5, Try.ntmps5
    go_wp2_with fail
    generalize w.alloc (.cells #[.int .i64 s.p.op, .int .i64 s.p.cl, .slice s.aH s.p.hol.length s.cH, .int .i64 s.p.mach, .slice s.aS s.p.setup.length s.cS, .slice s.aJ s.p.jobs.length s.cJ] 25) = W at *
    refine (long_any s W (hS.on hw) hf.h1 hf.h2 hf.h3 hf.h4).mono ?_
    rintro e w2 ⟨rfl, hb⟩
    have hb2 := hw.trans (hb.mono hw.size)
    have hk2 := hk.below hb hk.lt
    obtain ⟨c0, c1, c2, c3, c4, c5⟩ := shcells hk2
    cases hl : longB s.p
    · go_wp2_with fail
      refine (refValid_any s w2 (hS.on hb2) hf.h1 hf.h2 hf.h3 hf.h4).mono ?_
      rintro e w3 ⟨rfl, hb⟩
      have hb3 := hb2.trans (hb.mono hb2.size)
      have hk3 := hk2.below hb hk2.lt
      clear c0 c1 c2 c3 c4 c5
      obtain ⟨c0, c1, c2, c3, c4, c5⟩ := shcells hk3
      cases hvB : validShop s.p
      · go_wp2_with fail
        refine (first_any _).mono ?_
        rintro e w9 ⟨rfl, hb9⟩
        go_wp2_with fail
        go_ret
        exact ⟨rfl, hb3.trans (hb9.mono hb3.size)⟩
      · have hv := valid_facts hvB
        have v1 := hv.op0
        have v2 := hv.opcl
        have v3 := hv.cl
        go_wp2_with fail
        refine (first_any _).mono ?_
        rintro e w9 ⟨rfl, hb9⟩
        go_wp2_with fail
        go_ret
        exact ⟨rfl, hb3.trans (hb9.mono hb3.size)⟩
    · go_wp2_with fail
      refine (first_any _).mono ?_
      rintro e w9 ⟨rfl, hb9⟩
      go_wp2_with fail
      go_ret
      exact ⟨rfl, hb2.trans (hb9.mono hb2.size)⟩
  go_enter Try.func5, Try.ntmps5
  go_wp2_with fail
  generalize w.alloc (.cells #[.int .i64 s.p.op, .int .i64 s.p.cl, .slice s.aH s.p.hol.length s.cH, .int .i64 s.p.mach, .slice s.aS s.p.setup.length s.cS, .slice s.aJ s.p.jobs.length s.cJ] 25) = W at *
  refine (long_any s W (hS.on hw) hf.h1 hf.h2 hf.h3 hf.h4).mono ?_
  rintro e w2 ⟨rfl, hb⟩
  have hb2 := hw.trans (hb.mono hw.size)
  have hk2 := hk.below hb hk.lt
  obtain ⟨c0, c1, c2, c3, c4, c5⟩ := shcells hk2
  cases hl : longB s.p
  · go_wp2_with fail
    refine (refValid_any s w2 (hS.on hb2) hf.h1 hf.h2 hf.h3 hf.h4).mono ?_
    rintro e w3 ⟨rfl, hb⟩
    have hb3 := hb2.trans (hb.mono hb2.size)
    have hk3 := hk2.below hb hk2.lt
    clear c0 c1 c2 c3 c4 c5
    obtain ⟨c0, c1, c2, c3, c4, c5⟩ := shcells hk3
    cases hvB : validShop s.p
    · go_wp2_with fail
      refine (first_any _).mono ?_
      rintro e w9 ⟨rfl, hb9⟩
      go_wp2_with fail
      go_ret
      exact ⟨rfl, hb3.trans (hb9.mono hb3.size)⟩
    · have hv := valid_facts hvB
      have v1 := hv.op0
      have v2 := hv.opcl
      have v3 := hv.cl
      go_wp2_with fail
      refine (apiWorked_ok s t m _ (hS.on hb3) hvB (by omega) (by omega) (by omega)).mono ?_
      rintro e w4 ⟨rfl, hb⟩
      have hb4 := hb3.trans (hb.mono hb3.size)
      have hk4 := hk3.below hb hk3.lt
      clear c0 c1 c2 c3 c4 c5
      obtain ⟨c0, c1, c2, c3, c4, c5⟩ := shcells hk4
      go_wp2_with fail
      refine (refWorked_any s t m _ (hS.on hb4) hv (by omega) (by omega) (by omega)).mono ?_
      rintro e w5 ⟨rfl, hb⟩
      have hb5 := hb4.trans (hb.mono hb4.size)
      go_wp2_with fail
      refine (first_any _).mono ?_
      rintro e w9 ⟨rfl, hb9⟩
      go_wp2_with fail
      go_ret
      exact ⟨rfl, hb5.trans (hb9.mono hb5.size)⟩
  · go_wp2_with fail
    refine (first_any _).mono ?_
    rintro e w9 ⟨rfl, hb9⟩
    go_wp2_with fail
    go_ret
    exact ⟨rfl, hb2.trans (hb9.mono hb2.size)⟩
end Go.Proofs.Ytcpnfcnobnjhdaa

/- Chains and loads: the walks. -/
namespace Go.Proofs.Ytcpnfcnobnjhdaa
open Go.RowKit
theorem job_at {w : World} {B : Nat} {A : Option Addr} {js : List (List Step)} {k : Nat} {l : List Step} (h : Jobs w B A js) (hk : js[k]? = some l) :
    ∃ b off A' c', A = some ⟨b, off, none⟩ ∧ b < B ∧ w.cell? ⟨b, off + k, none⟩ = some (.slice A' l.length c') ∧ Slc Step.enc 4 w B A' l := h k l hk

set_option maxRecDepth 100000 in
theorem chain_any (s : Sh) (j : Nat) (l : List Step) (w : World) (hS : ShAt w w.heap.size s) (hv : VShop s.p) (hj : s.p.jobs[j]? = some l) :
    Calls Try.prog 56 #[.agg #[.int .i64 s.p.op, .int .i64 s.p.cl, .slice s.aH s.p.hol.length s.cH, .int .i64 s.p.mach, .slice s.aS s.p.setup.length s.cS, .slice s.aJ s.p.jobs.length s.cJ], .int .i64 j] w fun e w' => e = .returned (.int .i64 (chainF s.p l)) ∧ Below w.heap.size w w' := by
  have hjl : j < s.p.jobs.length := (List.getElem?_eq_some_iff.1 hj).1
  have hjn := hv.jobn
  have hst := hv.steps j l hj
  have v1 := hv.op0
  have v2 := hv.opcl
  have v3 := hv.cl
  have hk := Blk.new w 25 #[.int .i64 s.p.op, .int .i64 s.p.cl, .slice s.aH s.p.hol.length s.cH, .int .i64 s.p.mach, .slice s.aS s.p.setup.length s.cS, .slice s.aJ s.p.jobs.length s.cJ]
  have hw := (Below.refl w.heap.size w).alloc (Nat.le_refl _) (.cells #[.int .i64 s.p.op, .int .i64 s.p.cl, .slice s.aH s.p.hol.length s.cH, .int .i64 s.p.mach, .slice s.aS s.p.setup.length s.cS, .slice s.aJ s.p.jobs.length s.cJ] 25)
  obtain ⟨b, off, A', c', hA, hb, hc, hSl⟩ := job_at (hS.on hw).jobs hj
  have HC : Hid (chainF s.p l = chainSt s.p (l.drop 0) 0 0) := rfl
  obtain ⟨p, aH, cH, aS, cS, aJ, cJ⟩ := s
  dsimp only at *
  subst hA
  go_enter Try.func56, Try.ntmps56
  go_wp2_with fail
  generalize w.alloc (.cells #[.int .i64 p.op, .int .i64 p.cl, .slice aH p.hol.length cH, .int .i64 p.mach, .slice aS p.setup.length cS, .slice (some ⟨b, off, none⟩) p.jobs.length cJ] 25) = W at *
  go_loopw [5, 6, 16] (fun x y z wr => ∃ (k : Nat) (t e : Int), x = .int .i64 t ∧ y = .int .i64 e ∧ z = .int .i64 k ∧ k ≤ l.length ∧ chainF p l = chainSt p (l.drop k) t e ∧ 0 ≤ t ∧ t ≤ 20000000 + k * 20000 ∧ Blk wr w.heap.size 25 #[.int .i64 p.op, .int .i64 p.cl, .slice aH p.hol.length cH, .int .i64 p.mach, .slice aS p.setup.length cS, .slice (some ⟨b, off, none⟩) p.jobs.length cJ] ∧ Below w.heap.size w wr ∧ Below W.heap.size W wr) (fun _ _ z _ => l.length - (intOf z).toNat)
  case atStart => exact ⟨0, 0, 0, rfl, rfl, rfl, Nat.zero_le _, HC.out, Int.le_refl _, by omega, hk, hw, Below.refl _ _⟩
  case round =>
    obtain ⟨k, t, e, rfl, rfl, rfl, hkl, hch, ht0, ht1, hkr, hbel, hbW⟩ := hrel
    have HCH := hide hch
    clear hch
    by_cases hlt : k < l.length
    · obtain ⟨x, b2, off2, hx, hA2, hb2, d0, d1, d2, d3⟩ := steps_at (hSl.below hbW) hlt
      obtain ⟨_, _, x1, x2, _, _, x3, x4⟩ := hst.2 k x hx
      have hN := next_is hv (t := t) (m := x.mi) ht0 x2
      have hN1 := next_ge hv (t := t) (m := x.mi) ht0 x2
      have hN2 := hN.2
      have HX := hide hx
      clear hx hN
      subst hA2
      have hstp := Blk.new wr 69 #[.int .i64 x.m, .int .i64 x.mi, .int .i64 x.c, .int .i64 x.d]
      have hk2 := hkr.alloc (.cells #[.int .i64 x.m, .int .i64 x.mi, .int .i64 x.c, .int .i64 x.d] 69)
      have hbV := hbel.alloc hbel.size (.cells #[.int .i64 x.m, .int .i64 x.mi, .int .i64 x.c, .int .i64 x.d] 69)
      have hbU := hbW.alloc hbW.size (.cells #[.int .i64 x.m, .int .i64 x.mi, .int .i64 x.c, .int .i64 x.d] 69)
      go_wp2_with fail
      generalize wr.alloc (.cells #[.int .i64 x.m, .int .i64 x.mi, .int .i64 x.c, .int .i64 x.d] 69) = V at *
      have HSV := hS.on hbV
      refine wp_region_quiet (C := fun w' => ∃ u : Since V, w' = u.w) (by kernel_rfl) (by kernel_rfl) (Since.start V) ?_
      dsimp only
      have y0 := Since.cell (hk2.cell_ 0 rfl)
      have y1 := Since.cell (hk2.cell_ 1 rfl)
      have y2 := Since.cell (hk2.cell_ 2 rfl)
      have y3 := Since.cell (hk2.cell_ 3 rfl)
      have y4 := Since.cell (hk2.cell_ 4 rfl)
      have y5 := Since.cell (hk2.cell_ 5 rfl)
      have z1 := Since.cell (hstp.cell_ 1 rfl)
      have e1 : IntKind.i64.wrap (nextF p t x.mi + x.mi) = nextF p t x.mi + x.mi := IntWalk.i64_in _ (by omega)
      repeat (go_big_quiet_step ((go_at_call 51; exact Since.calls (next_any ⟨p, aH, cH, aS, cS, some ⟨b, off, none⟩, cJ⟩ t x.mi _ (HSV.on (Since.h _)) hv ht0 (by omega) x1 x2))))
      refine wpQuiet_nil ?_
      rintro _ ⟨u, rfl⟩
      have hk3 := hk2.below u.h hk2.lt
      have hs3 := hstp.below u.h hstp.lt
      have hb3 := hbV.trans (u.h.mono hbV.size)
      have hU3 := hbU.trans (u.h.mono hbU.size)
      have g3 := hs3.cell_ 3 rfl
      go_wp2_with fail
      go_roundw
      case rel => exact ⟨k + 1, _, _, rfl, rfl, by go_num, by omega, by rw [HCH.out, chainSt_drop HX.out], by omega, by omega, hk3, hb3, hU3⟩
      case measure => simp [intOf]; omega
    · obtain rfl : k = l.length := by omega
      go_wp2_with fail
      go_ret
      exact ⟨ret_int (by rw [HCH.out, nomore]; rfl), hbel⟩

set_option maxRecDepth 100000 in
theorem refChain_any (s : Sh) (j : Nat) (l : List Step) (w : World) (hS : ShAt w w.heap.size s) (hv : VShop s.p) (hj : s.p.jobs[j]? = some l) :
    Calls Try.prog 31 #[.agg #[.int .i64 s.p.op, .int .i64 s.p.cl, .slice s.aH s.p.hol.length s.cH, .int .i64 s.p.mach, .slice s.aS s.p.setup.length s.cS, .slice s.aJ s.p.jobs.length s.cJ], .int .i64 j] w fun e w' => e = .returned (.int .i64 (chainF s.p l)) ∧ Below w.heap.size w w' := by
  have hjl : j < s.p.jobs.length := (List.getElem?_eq_some_iff.1 hj).1
  have hjn := hv.jobn
  have hst := hv.steps j l hj
  have v1 := hv.op0
  have v2 := hv.opcl
  have v3 := hv.cl
  have hk := Blk.new w 25 #[.int .i64 s.p.op, .int .i64 s.p.cl, .slice s.aH s.p.hol.length s.cH, .int .i64 s.p.mach, .slice s.aS s.p.setup.length s.cS, .slice s.aJ s.p.jobs.length s.cJ]
  have hw := (Below.refl w.heap.size w).alloc (Nat.le_refl _) (.cells #[.int .i64 s.p.op, .int .i64 s.p.cl, .slice s.aH s.p.hol.length s.cH, .int .i64 s.p.mach, .slice s.aS s.p.setup.length s.cS, .slice s.aJ s.p.jobs.length s.cJ] 25)
  obtain ⟨b, off, A', c', hA, hb, hc, hSl⟩ := job_at (hS.on hw).jobs hj
  have HC : Hid (chainF s.p l = chainSt s.p (l.drop 0) 0 0) := rfl
  obtain ⟨p, aH, cH, aS, cS, aJ, cJ⟩ := s
  dsimp only at *
  subst hA
  go_enter Try.func31, Try.ntmps31
  go_wp2_with fail
  generalize w.alloc (.cells #[.int .i64 p.op, .int .i64 p.cl, .slice aH p.hol.length cH, .int .i64 p.mach, .slice aS p.setup.length cS, .slice (some ⟨b, off, none⟩) p.jobs.length cJ] 25) = W at *
  go_loopw [5, 6, 8] (fun x y z wr => ∃ (k : Nat) (t e : Int), x = .int .i64 t ∧ y = .int .i64 e ∧ z = .int .i64 k ∧ k ≤ l.length ∧ chainF p l = chainSt p (l.drop k) t e ∧ 0 ≤ t ∧ t ≤ 20000000 + k * 20000 ∧ Blk wr w.heap.size 25 #[.int .i64 p.op, .int .i64 p.cl, .slice aH p.hol.length cH, .int .i64 p.mach, .slice aS p.setup.length cS, .slice (some ⟨b, off, none⟩) p.jobs.length cJ] ∧ Below w.heap.size w wr ∧ Below W.heap.size W wr) (fun _ _ z _ => l.length - (intOf z).toNat)
  case atStart => exact ⟨0, 0, 0, rfl, rfl, rfl, Nat.zero_le _, HC.out, Int.le_refl _, by omega, hk, hw, Below.refl _ _⟩
  case round =>
    obtain ⟨k, t, e, rfl, rfl, rfl, hkl, hch, ht0, ht1, hk2, hbV, hbW⟩ := hrel
    have HCH := hide hch
    clear hch
    by_cases hlt : k < l.length
    · obtain ⟨x, b2, off2, hx, hA2, hb2, d0, d1, d2, d3⟩ := steps_at (hSl.below hbW) hlt
      obtain ⟨_, _, x1, x2, _, _, x3, x4⟩ := hst.2 k x hx
      have hN := next_is hv (t := t) (m := x.mi) ht0 x2
      have hN1 := next_ge hv (t := t) (m := x.mi) ht0 x2
      have hN2 := hN.2
      have HX := hide hx
      clear hx hN
      subst hA2
      obtain ⟨V, rfl⟩ : ∃ V : World, V = wr := ⟨_, rfl⟩
      have HSV := hS.on hbV
      go_wp2_with fail
      refine wp_region_quiet (C := fun w' => ∃ u : Since V, w' = u.w) (by kernel_rfl) (by kernel_rfl) (Since.start V) ?_
      dsimp only
      have y0 := Since.cell (hk2.cell_ 0 rfl)
      have y1 := Since.cell (hk2.cell_ 1 rfl)
      have y2 := Since.cell (hk2.cell_ 2 rfl)
      have y3 := Since.cell (hk2.cell_ 3 rfl)
      have y4 := Since.cell (hk2.cell_ 4 rfl)
      have y5 := Since.cell (hk2.cell_ 5 rfl)
      have z1 := Since.cell d1
      have e1 : IntKind.i64.wrap (nextF p t x.mi + x.mi) = nextF p t x.mi + x.mi := IntWalk.i64_in _ (by omega)
      repeat (go_big_quiet_step ((go_at_call 22; exact Since.calls (refNext_any ⟨p, aH, cH, aS, cS, some ⟨b, off, none⟩, cJ⟩ t x.mi _ (HSV.on (Since.h _)) hv ht0 (by omega) x1 x2))))
      refine wpQuiet_nil ?_
      rintro _ ⟨u, rfl⟩
      have hk3 := hk2.below u.h hk2.lt
      have hb3 := hbV.trans (u.h.mono hbV.size)
      have hU3 := hbW.trans (u.h.mono hbW.size)
      obtain ⟨x', b3, off3, hx', hA3, _, f0, f1, f2, f3⟩ := steps_at (hSl.below hU3) hlt
      obtain rfl : x' = x := by have := HX.out; rw [this] at hx'; injection hx' with hx'; exact hx'.symm
      obtain ⟨rfl, rfl⟩ : b2 = b3 ∧ off2 = off3 := by injection hA3 with hA3; injection hA3 with h1 h2; exact ⟨h1, h2⟩
      clear hx' hA3
      go_wp2_with fail
      go_roundw
      case rel => exact ⟨k + 1, _, _, rfl, rfl, by go_num, by omega, by rw [HCH.out, chainSt_drop HX.out], by omega, by omega, hk3, hb3, hU3⟩
      case measure => simp [intOf]; omega
    · obtain rfl : k = l.length := by omega
      go_wp2_with fail
      go_ret
      exact ⟨ret_int (by rw [HCH.out, nomore]; rfl), hbV⟩
end Go.Proofs.Ytcpnfcnobnjhdaa

/- Lists that the call itself makes: owned rows whose elements are told by a function. -/
namespace Go.Proofs.Ytcpnfcnobnjhdaa
open Go.RowKit

/-- what is known of an element type: its slice type t, its own number e, its cells -/
def ElemT (P : Program) (t e : TypeId) (sz : Nat) : Prop :=
  ∃ (i : TypeInfo) (z : Value) (bytes : Nat), P.underlying t = some (.slice e) ∧ P.info? e = some i ∧ i.zero = some z ∧ i.size = sz ∧ i.bytes = bytes ∧ z.cells.size = sz ∧ 0 < sz ∧ bytes ≤ 4096
theorem elemT_mk {P : Program} {t e : TypeId} {sz bytes : Nat} {z : Value} (ht : P.underlying t = some (.slice e)) (h : (P.info? e).map (fun i => (i.zero, i.size, i.bytes)) = some (some z, sz, bytes)) (hz : z.cells.size = sz) (h0 : 0 < sz) (hb : bytes ≤ 4096) : ElemT P t e sz := by
  obtain ⟨i, hi, h1, h2, h3⟩ := info_parts h
  exact ⟨i, z, bytes, ht, hi, h1, h2, h3, hz, h0, hb⟩

/-- a list that the call made, in blocks from base on -/
def Own {α : Type} (w : World) (base : Nat) (e : TypeId) (sz : Nat) (f : α → List Value) (v : Value) (l : List α) : Prop := w.ownsRow base e sz v l.length (l.flatMap f)
theorem flat_len {α : Type} {f : α → List Value} {n : Nat} (h : ∀ x, (f x).length = n) : ∀ l : List α, (l.flatMap f).length = l.length * n
  | [] => by simp
  | x :: r => by rw [List.flatMap_cons, List.length_append, h, flat_len h r, List.length_cons, Nat.succ_mul, Nat.add_comm]
theorem flat_at {α : Type} {f : α → List Value} {n : Nat} (h : ∀ x, (f x).length = n) : ∀ (l : List α) (i : Nat) (x : α), l[i]? = some x → ∀ (j : Nat) (v : Value), (f x)[j]? = some v → (l.flatMap f)[i * n + j]? = some v
  | [], i, x, hi, _, _, _ => by simp at hi
  | y :: r, 0, x, hi, j, v, hv => by
    simp at hi; subst hi
    rw [List.flatMap_cons, Nat.zero_mul, Nat.zero_add, List.getElem?_append_left (List.getElem?_eq_some_iff.1 hv).1]; exact hv
  | y :: r, i + 1, x, hi, j, v, hv => by
    simp at hi
    rw [List.flatMap_cons, List.getElem?_append_right (by rw [h, Nat.succ_mul]; omega), h, show (i + 1) * n + j - n = i * n + j by rw [Nat.succ_mul]; omega]
    exact flat_at h r i x hi j v hv
section
variable {α : Type} {w w' : World} {base : Nat} {e : TypeId} {sz : Nat} {f : α → List Value} {v : Value} {l : List α}
theorem Own.nil_ : Own w base e sz f (.slice none 0 0) ([] : List α) := World.ownsRow_nil _ _ _ _
theorem Own.alloc (h : Own w base e sz f v l) (o : Obj) : Own (w.alloc o) base e sz f v l := World.ownsRow.alloc h o
theorem Own.below (h : Own w base e sz f v l) (hb : Below w.heap.size w w') : Own w' base e sz f v l :=
  World.ownsRow.kept (row := none) h ⟨hb.os, hb.tape, hb.output, hb.size, fun k hk _ => hb.block k hk⟩ (by cases hv : v.ownBlock <;> simp)
theorem Own.drew (h : Own w base e sz f v l) : Own w.drew base e sz f v l := h.below (Below.refl _ _).drew
theorem Own.setBelow (h : Own w base e sz f v l) {p : Addr} (hp : p.block < base) (u : Value) : Own (w.setCell p u) base e sz f v l := ownsRow_setCell_below h hp u
theorem Own.mono_base {b' : Nat} (h : Own w base e sz f v l) (hb : b' ≤ base) : Own w b' e sz f v l := by
  refine ⟨h.1, ?_⟩
  rcases h.2 with hn | ⟨g, cap, cur, h1, h2, h3⟩
  · exact .inl hn
  · exact .inr ⟨g, cap, cur, h1, by omega, h3⟩
/-- the value's form, and how it reads -/
theorem Own.form (h : Own w base e sz f v l) (hf : ∀ x, (f x).length = sz) : ∃ A c, v = .slice A l.length c ∧ Slc f sz w w.heap.size A l := by
  rcases h.2 with ⟨h1, h2⟩ | ⟨g, cap, cur, rfl, h2, h3, h4, h5, h6, h7⟩
  · have : l = [] := List.length_eq_zero_iff.1 h2
    subst this
    exact ⟨none, 0, h1, Slc.nil_⟩
  · refine ⟨some ⟨g, 0, none⟩, cap, rfl, fun i x hi => ⟨g, 0, rfl, ?_, fun j u hu => ?_⟩⟩
    · exact (Array.getElem?_eq_some_iff.1 h3).1
    · have h8 := flat_at hf l i x hi j u hu
      rw [← h7, List.getElem?_take] at h8
      split at h8
      · rw [Nat.zero_add]
        rw [cell_of_row w g _ cur e (0, 0) h3]
        simpa using h8
      · cases h8
theorem Own.form2 (h : Own w base e sz f v l) (hf : ∀ x, (f x).length = sz) : ∃ A c, v = .slice A l.length c ∧ l.length ≤ c ∧ Slc f sz w w.heap.size A l := by
  obtain ⟨A, c, h1, h2⟩ := h.form hf
  refine ⟨A, c, h1, ?_, h2⟩
  rcases h.2 with ⟨h3, h4⟩ | ⟨g, cap, cur, h3, _, _, h4, _⟩
  · omega
  · rw [h1] at h3; injection h3 with _ _ h5; omega
/-- .. where something is in it -/
theorem Own.at_ (h : Own w base e sz f v l) (hl : 0 < l.length) : ∃ g c, v = .slice (some ⟨g, 0, none⟩) l.length c ∧ base ≤ g ∧ g < w.heap.size := World.ownsRow.form h hl
/-- append of one element that has been laid into a block of its own -/
theorem wpList_app {P : Program} {ops : Array Oper} {rest : List Oper} {o : Oper} {a : Act} {Q : Exit → Act → World → Prop} {cs : Array Value} {y : α} (s x : Operand) {t : TypeId} (hgd : o.guard = none)
    (ho : o.op = .call { callee := .builtin .append, args := #[s, x], argTypes := #[t, t] }) (he : ElemT P t e sz) (hown : Own w base e sz f v l) (hs : a.eval s = v) (hx : a.eval x = .slice (some ⟨w.heap.size, 0, none⟩) 1 1)
    (hcs : cs.toList = f y) (hsz : (f y).length = sz) (h1 : (f y).all Value.oneCell' = true) (hlen : l.length ≤ 1000000000) (hbase : base ≤ w.heap.size)
    (h : ∀ v' w', Own w' base e sz f v' (l ++ [y]) → Below base w w' → w'.heap.size > base → wpList P ops Q rest (a.put o.dst v') w') : wpList P ops Q (o :: rest) a (w.alloc (.cells cs e)) := by
  obtain ⟨i, z, bytes, ht, hi, hz, hsize, hby, hzs, h0, hb⟩ := he
  refine wpList_append_lies (w.alloc (.cells cs e)) hgd s x t ho base e i z sz bytes ht hi hz hsize hby hzs h0 v l.length (l.flatMap f) hs (World.ownsRow.alloc hown _) ⟨w.heap.size, 0, none⟩ 1 1 (f y) hx (by omega) ?_ ?_ (by omega) (by unfold maxLen; omega) ?_ (by simp; omega) (w.heap.size + 1) (by simp) ?_
  · intro j u hu
    rw [← hcs] at hu
    exact World.news_of_block (heap_alloc_new w (.cells cs e)) j u hu
  · exact fun u hu => List.all_eq_true.1 h1 u hu
  · calc (l.length + 1) * bytes ≤ 1000000001 * 4096 := Nat.mul_le_mul (by omega) hb
      _ ≤ _ := by omega
  · intro g cap w' h2 h3 h4 h5
    refine h _ w' ?_ (((Below.refl base w).alloc hbase _).grown h3 (by simp; omega) fun k hk => (World.ownsRow.lt hown k hk).1) ?_
    · show w'.ownsRow _ _ _ _ _ _
      rw [List.length_append, List.flatMap_append, List.flatMap_cons, List.flatMap_nil, List.append_nil]
      exact h2
    · have := h3.size
      simp at this
      omega
/-- .. at a step of a region that draws: the new element lies in a block that is known whole -/
theorem step_app {P : Program} {ops : Array Oper} {o : Oper} {a : Act} {K : Act → World → Prop} {Q : Exit → Act → World → Prop} {E : Prop} {cs : Array Value} {y : α} {nb : Nat} (s x : Operand) {t : TypeId} (hgd : o.guard = none)
    (ho : o.op = .call { callee := .builtin .append, args := #[s, x], argTypes := #[t, t] }) (he : ElemT P t e sz) (hown : Own w base e sz f v l) (hs : a.eval s = v) (hx : a.eval x = .slice (some ⟨nb, 0, none⟩) 1 1)
    (hbl : Blk w nb e cs) (hcs : cs.toList = f y) (hsz : (f y).length = sz) (h1 : (f y).all Value.oneCell' = true) (hlen : l.length ≤ 1000000000) (hbase : base ≤ w.heap.size)
    (h : ∀ v' w', Own w' base e sz f v' (l ++ [y]) → Below base w w' → w'.heap.size > base → K (a.put o.dst v') w') :
    if Region.wanted o (yielded ops a.tmps) = true then Oper.wp P o a w K Q else E := by
  obtain ⟨i, z, bytes, ht, hi, hz, hsize, hby, hzs, h0, hb⟩ := he
  refine step_append_lies w hgd s x t ho base e i z sz bytes ht hi hz hsize hby hzs h0 v l.length (l.flatMap f) hs hown ⟨nb, 0, none⟩ 1 1 (f y) hx (by omega) ?_ ?_ (by omega) (by unfold maxLen; omega) ?_ hbase w.heap.size rfl ?_
  · intro j u hu
    rw [← hcs] at hu
    exact World.news_of_block hbl j u hu
  · exact fun u hu => List.all_eq_true.1 h1 u hu
  · calc (l.length + 1) * bytes ≤ 1000000001 * 4096 := Nat.mul_le_mul (by omega) hb
      _ ≤ _ := by omega
  · intro g cap w' h2 h3 h4 h5
    refine h _ w' ?_ ((Below.refl base w).grown h3 (by omega) fun k hk => (World.ownsRow.lt hown k hk).1) ?_
    · show w'.ownsRow _ _ _ _ _ _
      rw [List.length_append, List.flatMap_append, List.flatMap_cons, List.flatMap_nil, List.append_nil]
      exact h2
    · have := World.ownsRow.lt h2 g rfl
      have := h3.size
      omega
end
end Go.Proofs.Ytcpnfcnobnjhdaa

/- All steps of a shop: the list of the specification. -/
namespace Go.Proofs.Ytcpnfcnobnjhdaa
open Go.RowKit
/-- job and number of a step -/
def Ent.pair (e : Ent) : List Value := [.int .i64 e.j, .int .i64 e.k]
theorem et_pair : ElemT Try.prog 54 77 2 := elemT_mk Try.underlying54 (z := .agg #[.int .i64 0, .int .i64 0]) (bytes := 16) (by kernel_rfl) rfl (by omega) (by omega)
theorem stepsFrom_len {j : Nat} : ∀ {l : List Step} {k : Nat}, (stepsFrom j k l).length = l.length
  | [], _ => rfl
  | x :: r, k => by simp [stepsFrom, stepsFrom_len (l := r)]
theorem entsFrom_len {n : Nat} : ∀ {js : List (List Step)} {j : Nat}, (∀ l ∈ js, l.length ≤ n) → (entsFrom j js).length ≤ js.length * n
  | [], _, _ => by simp [entsFrom]
  | l :: r, j, h => by
    have h1 := h l (by simp)
    have h2 := entsFrom_len (n := n) (js := r) (j := j + 1) fun l hl => h l (by simp [hl])
    simp only [entsFrom, List.length_append, stepsFrom_len, List.length_cons, Nat.succ_mul]
    omega
theorem ents_len {p : Shop} (hv : VShop p) : (ents p).length ≤ 96 := by
  have h := entsFrom_len (n := 8) (js := p.jobs) (j := 0) fun l hl => by
    obtain ⟨i, hi⟩ := List.getElem?_of_mem hl
    exact (hv.steps i l hi).1
  have := hv.jobn
  unfold ents
  omega

set_option maxRecDepth 100000 in
theorem refList_any (s : Sh) (w : World) (hS : ShAt w w.heap.size s) (hv : VShop s.p) :
    Calls Try.prog 58 #[.agg #[.int .i64 s.p.op, .int .i64 s.p.cl, .slice s.aH s.p.hol.length s.cH, .int .i64 s.p.mach, .slice s.aS s.p.setup.length s.cS, .slice s.aJ s.p.jobs.length s.cJ]] w fun e w' => ∃ A c, e = .returned (.slice A (ents s.p).length c) ∧ Below w.heap.size w w' ∧ Slc Ent.pair 2 w' w'.heap.size A (ents s.p) := by
  have hjn := hv.jobn
  have hen := ents_len hv
  have hk := Blk.new w 25 #[.int .i64 s.p.op, .int .i64 s.p.cl, .slice s.aH s.p.hol.length s.cH, .int .i64 s.p.mach, .slice s.aS s.p.setup.length s.cS, .slice s.aJ s.p.jobs.length s.cJ]
  have hB := (Below.refl w.heap.size w).alloc (Nat.le_refl _) (.cells #[.int .i64 s.p.op, .int .i64 s.p.cl, .slice s.aH s.p.hol.length s.cH, .int .i64 s.p.mach, .slice s.aS s.p.setup.length s.cS, .slice s.aJ s.p.jobs.length s.cJ] 25)
  have hz : w.heap.size + 1 ≤ (w.alloc (.cells #[.int .i64 s.p.op, .int .i64 s.p.cl, .slice s.aH s.p.hol.length s.cH, .int .i64 s.p.mach, .slice s.aS s.p.setup.length s.cS, .slice s.aJ s.p.jobs.length s.cJ] 25)).heap.size := by simp
  go_enter Try.func58, Try.ntmps58
  go_wp2_with fail
  generalize w.alloc (.cells #[.int .i64 s.p.op, .int .i64 s.p.cl, .slice s.aH s.p.hol.length s.cH, .int .i64 s.p.mach, .slice s.aS s.p.setup.length s.cS, .slice s.aJ s.p.jobs.length s.cJ] 25) = W at *
  have hO : Own W (w.heap.size + 1) 77 2 Ent.pair (.slice none 0 0) [] := Own.nil_
  go_loopw [3, 4] (fun v y W => ∃ (j : Nat) (es : List Ent), y = .int .i64 j ∧ j ≤ s.p.jobs.length ∧ es ++ entsFrom j (s.p.jobs.drop j) = ents s.p ∧ Blk W w.heap.size 25 #[.int .i64 s.p.op, .int .i64 s.p.cl, .slice s.aH s.p.hol.length s.cH, .int .i64 s.p.mach, .slice s.aS s.p.setup.length s.cS, .slice s.aJ s.p.jobs.length s.cJ] ∧ Own W (w.heap.size + 1) 77 2 Ent.pair v es ∧ w.heap.size + 1 ≤ W.heap.size ∧ Below w.heap.size w W) (fun v y _ => s.p.jobs.length - (intOf y).toNat)
  case atStart => exact ⟨0, [], rfl, Nat.zero_le _, rfl, hk, hO, hz, hB⟩
  case round =>
    obtain ⟨W, rfl⟩ : ∃ W : World, W = wr := ⟨_, rfl⟩
    obtain ⟨j, es, rfl, hj, hes, hk, hO, hz, hB⟩ := hrel
    have c5 := hk.cell_ 5 rfl
    by_cases hlt : j < s.p.jobs.length
    · obtain ⟨l, hjl⟩ : ∃ l, s.p.jobs[j]? = some l := ⟨_, List.getElem?_eq_getElem hlt⟩
      have hll := (hv.steps j l hjl).1
      obtain ⟨b, off, A', c', hA, hb0, hc, _⟩ := job_at hS.jobs hjl
      have HES := hide (show es ++ (stepsFrom j 0 (l.drop 0) ++ entsFrom (j + 1) (s.p.jobs.drop (j + 1))) = ents s.p by rw [← hes, entsFrom_drop hjl]; rfl)
      clear hes hjl
      have hcw := (hB.cell (p := ⟨b, off + j, none⟩) hb0).trans hc
      obtain ⟨p, aH, cH, aS, cS, aJ, cJ⟩ := s
      dsimp only at *
      subst hA
      go_wp2_with fail
      clear hcw
      clear c5
      go_loopw [3, 5] (fun v z W => ∃ (k : Nat) (es : List Ent), z = .int .i64 k ∧ k ≤ l.length ∧ es ++ (stepsFrom j k (l.drop k) ++ entsFrom (j + 1) (p.jobs.drop (j + 1))) = ents p ∧ Blk W w.heap.size 25 #[.int .i64 p.op, .int .i64 p.cl, .slice aH p.hol.length cH, .int .i64 p.mach, .slice aS p.setup.length cS, .slice (some ⟨b, off, none⟩) p.jobs.length cJ] ∧ Own W (w.heap.size + 1) 77 2 Ent.pair v es ∧ w.heap.size + 1 ≤ W.heap.size ∧ Below w.heap.size w W) (fun v z _ => l.length - (intOf z).toNat)
      case atStart => exact ⟨0, es, rfl, Nat.zero_le _, HES.out, hk, hO, hz, hB⟩
      case round =>
        clear HES
        clear hk hO hz hB
        obtain ⟨W, rfl⟩ : ∃ W : World, W = wr := ⟨_, rfl⟩
        obtain ⟨k, es, rfl, hk2, hes, hk, hO, hz, hB⟩ := hrel
        have c5 := hk.cell_ 5 rfl
        have hcw := (hB.cell (p := ⟨b, off + j, none⟩) hb0).trans hc
        by_cases hlk : k < l.length
        · obtain ⟨x, hx⟩ : ∃ x, l[k]? = some x := ⟨_, List.getElem?_eq_getElem hlk⟩
          have HES := hide (show (es ++ [⟨j, k, x⟩]) ++ (stepsFrom j (k + 1) (l.drop (k + 1)) ++ entsFrom (j + 1) (p.jobs.drop (j + 1))) = ents p by rw [← hes, stepsFrom_drop hx]; simp)
          have hel : es.length + 1 ≤ 96 := by
            have := congrArg List.length HES.out
            simp at this; omega
          clear hes hx
          go_wp2_with (at_builtin; refine wpList_app _ _ rfl rfl et_pair hO rfl rfl (y := (⟨j, k, x⟩ : Ent)) rfl rfl rfl (by omega) (by omega) ?_; intro v' W hO' hb hgt; clear c5; replace hk := hk.below hb (by omega); clear hO; have hO := hO'; clear hO'; replace hz := Nat.le_trans hz hb.size; replace hB := hB.trans (hb.mono (by omega)); clear hb; have c5 := hk.cell_ 5 rfl)
          go_roundw
          case rel => exact ⟨k + 1, _, by go_num, by omega, HES.out, hk, hO, hz, hB⟩
          case measure => simp [intOf]; omega
        · obtain rfl : k = l.length := by omega
          have HES := hide (show es ++ entsFrom (j + 1) (p.jobs.drop (j + 1)) = ents p by rw [← hes, nomore]; rfl)
          clear hes
          go_wp2_with fail
          go_roundw
          case rel => exact ⟨j + 1, es, by go_num, by omega, HES.out, hk, hO, hz, hB⟩
          case measure => simp [intOf]; omega
    · obtain rfl : j = s.p.jobs.length := by omega
      obtain rfl : es = ents s.p := by rw [← hes, nomore]; simp [entsFrom]
      clear hes
      obtain ⟨A, c, rfl, hSl⟩ := hO.form fun _ => rfl
      go_wp2_with fail
      go_ret
      exact ⟨A, c, rfl, hB, hSl⟩
end Go.Proofs.Ytcpnfcnobnjhdaa

/- Loads and bounds: the walks. -/
namespace Go.Proofs.Ytcpnfcnobnjhdaa
open Go.RowKit
theorem sumM_nonneg (m : Int) : ∀ {l : List Ent}, (∀ e ∈ l, 0 ≤ e.x.mi ∧ e.x.mi ≤ 1440) → 0 ≤ sumM m l ∧ sumM m l ≤ l.length * 1440
  | [], _ => by simp [sumM]
  | e :: r, h => by
    have h1 := h e (by simp)
    have h2 := sumM_nonneg m (l := r) fun e he => h e (by simp [he])
    simp only [sumM, List.length_cons]
    split <;> omega
theorem ents_step {p : Shop} (hv : VShop p) {e : Ent} (h : e ∈ ents p) : 0 ≤ e.x.m ∧ e.x.m < p.mach ∧ 1 ≤ e.x.mi ∧ e.x.mi ≤ p.cl - p.op ∧ 0 ≤ e.x.c ∧ e.x.c ≤ 9 ∧ 0 ≤ e.x.d ∧ e.x.d ≤ 10000 := by
  obtain ⟨l, h1, h2⟩ := ents_mem h
  have h := (hv.steps e.j l h1).2 e.k e.x h2
  omega
theorem sumM_bd {p : Shop} (hv : VShop p) (m : Int) {es r : List Ent} (h : es ++ r = ents p) : 0 ≤ sumM m es ∧ sumM m es ≤ 138240 := by
  have v1 := hv.op0
  have v3 := hv.cl
  have h1 := sumM_nonneg m (l := es) fun e he => by
    have := ents_step hv (e := e) (by rw [← h]; simp [he])
    omega
  have h2 := ents_len hv
  have h3 : es.length ≤ 96 := by
    have := congrArg List.length h
    simp at this; omega
  omega
theorem sumM_snoc (m : Int) (es : List Ent) (e : Ent) : sumM m (es ++ [e]) = sumM m es + if e.x.m = m then e.x.mi else 0 := by
  rw [sumM_append]; simp [sumM]

set_option maxRecDepth 100000 in
theorem load_any (s : Sh) (m : Int) (w : World) (hS : ShAt w w.heap.size s) (hv : VShop s.p) :
    Calls Try.prog 57 #[.agg #[.int .i64 s.p.op, .int .i64 s.p.cl, .slice s.aH s.p.hol.length s.cH, .int .i64 s.p.mach, .slice s.aS s.p.setup.length s.cS, .slice s.aJ s.p.jobs.length s.cJ], .int .i64 m] w fun e w' => e = .returned (.int .i64 (loadF s.p m)) ∧ Below w.heap.size w w' := by
  have hjn := hv.jobn
  have hsb := hide (fun (es r : List Ent) (h : es ++ r = ents s.p) => sumM_bd hv m h)
  have hk := Blk.new w 25 #[.int .i64 s.p.op, .int .i64 s.p.cl, .slice s.aH s.p.hol.length s.cH, .int .i64 s.p.mach, .slice s.aS s.p.setup.length s.cS, .slice s.aJ s.p.jobs.length s.cJ]
  have hB := (Below.refl w.heap.size w).alloc (Nat.le_refl _) (.cells #[.int .i64 s.p.op, .int .i64 s.p.cl, .slice s.aH s.p.hol.length s.cH, .int .i64 s.p.mach, .slice s.aS s.p.setup.length s.cS, .slice s.aJ s.p.jobs.length s.cJ] 25)
  obtain ⟨p, aH, cH, aS, cS, aJ, cJ⟩ := s
  dsimp only at *
  go_enter Try.func57, Try.ntmps57
  go_wp2_with fail
  generalize w.alloc (.cells #[.int .i64 p.op, .int .i64 p.cl, .slice aH p.hol.length cH, .int .i64 p.mach, .slice aS p.setup.length cS, .slice aJ p.jobs.length cJ] 25) = W at *
  go_loopw [5, 13] (fun x y W => ∃ (j : Nat) (es : List Ent), x = .int .i64 (sumM m es) ∧ y = .int .i64 j ∧ j ≤ p.jobs.length ∧ es ++ entsFrom j (p.jobs.drop j) = ents p ∧ Blk W w.heap.size 25 #[.int .i64 p.op, .int .i64 p.cl, .slice aH p.hol.length cH, .int .i64 p.mach, .slice aS p.setup.length cS, .slice aJ p.jobs.length cJ] ∧ Below w.heap.size w W) (fun x y _ => p.jobs.length - (intOf y).toNat)
  case atStart => exact ⟨0, [], rfl, rfl, Nat.zero_le _, rfl, hk, hB⟩
  case round =>
    clear hk hB
    obtain ⟨W, rfl⟩ : ∃ W : World, W = wr := ⟨_, rfl⟩
    obtain ⟨j, es, rfl, rfl, hj, hes, hk, hB⟩ := hrel
    by_cases hlt : j < p.jobs.length
    · obtain ⟨l, b, off, A', c', hjl, hA, hb0, hc, hSl⟩ := jobs_at hS.jobs hlt
      have hll := (hv.steps j l hjl).1
      have HES := hide (show es ++ (stepsFrom j 0 (l.drop 0) ++ entsFrom (j + 1) (p.jobs.drop (j + 1))) = ents p by rw [← hes, entsFrom_drop hjl]; rfl)
      clear hes hjl
      have hcw := (hB.cell (p := ⟨b, off + j, none⟩) hb0).trans hc
      dsimp only at hA
      subst hA
      have hB' := hB.alloc hB.size (.cells #[.slice A' l.length c'] 67)
      have hk' := hk.alloc (.cells #[.slice A' l.length c'] 67)
      clear hk hB
      go_wp2_with fail
      clear hcw
      generalize W.alloc (.cells #[.slice A' l.length c'] 67) = W2 at *
      obtain ⟨hk, hB⟩ : _ ∧ _ := ⟨hk', hB'⟩
      clear hk' hB'
      go_loopw [5, 20] (fun x z W => ∃ (k : Nat) (es : List Ent), x = .int .i64 (sumM m es) ∧ z = .int .i64 k ∧ k ≤ l.length ∧ es ++ (stepsFrom j k (l.drop k) ++ entsFrom (j + 1) (p.jobs.drop (j + 1))) = ents p ∧ Blk W w.heap.size 25 #[.int .i64 p.op, .int .i64 p.cl, .slice aH p.hol.length cH, .int .i64 p.mach, .slice aS p.setup.length cS, .slice (some ⟨b, off, none⟩) p.jobs.length cJ] ∧ Below w.heap.size w W) (fun x z _ => l.length - (intOf z).toNat)
      case atStart => exact ⟨0, es, rfl, rfl, Nat.zero_le _, HES.out, hk, hB⟩
      case round =>
        clear HES
        clear hk hB
        obtain ⟨W, rfl⟩ : ∃ W : World, W = wr := ⟨_, rfl⟩
        obtain ⟨k, es, rfl, rfl, hk2, hes, hk, hB⟩ := hrel
        have hs1 := hsb.out _ _ hes
        by_cases hlk : k < l.length
        · obtain ⟨x, b2, off2, hx, hA2, hb2, d0, d1, d2, d3⟩ := steps_at (hSl.below hB) hlk
          have hes' : (es ++ [⟨j, k, x⟩]) ++ (stepsFrom j (k + 1) (l.drop (k + 1)) ++ entsFrom (j + 1) (p.jobs.drop (j + 1))) = ents p := by rw [← hes, stepsFrom_drop hx]; simp
          have hs2 := hsb.out _ _ hes'
          have HES := hide hes'
          have HSN := hide (sumM_snoc m es ⟨j, k, x⟩)
          have hxm := ents_step hv (e := ⟨j, k, x⟩) (by rw [← hes']; simp)
          dsimp only at hxm
          have v1 := hv.op0
          have v3 := hv.cl
          subst hA2
          replace hB := hB.alloc hB.size (.cells #[.int .i64 x.m, .int .i64 x.mi, .int .i64 x.c, .int .i64 x.d] 69)
          replace hk := hk.alloc (.cells #[.int .i64 x.m, .int .i64 x.mi, .int .i64 x.c, .int .i64 x.d] 69)
          clear hes hes' hx
          by_cases hm : x.m = m
          · have HM := hide hm
            have hmb : (x.m == m) = true := by simpa using hm
            clear hm
            go_wp2_with fail
            go_roundw
            case rel => exact ⟨k + 1, _, by rw [HSN.out, if_pos HM.out], by go_num, by omega, HES.out, hk, hB⟩
            case measure => simp [intOf]; omega
          · have HM := hide hm
            have hmb : (x.m == m) = false := by simpa using hm
            clear hm
            go_wp2_with fail
            go_roundw
            case rel => exact ⟨k + 1, _, by rw [HSN.out, if_neg HM.out]; go_num, by go_num, by omega, HES.out, hk, hB⟩
            case measure => simp [intOf]; omega
        · obtain rfl : k = l.length := by omega
          have HES := hide (show es ++ entsFrom (j + 1) (p.jobs.drop (j + 1)) = ents p by rw [← hes, nomore]; rfl)
          clear hes
          go_wp2_with fail
          go_roundw
          case rel => exact ⟨j + 1, es, rfl, by go_num, by omega, HES.out, hk, hB⟩
          case measure => simp [intOf]; omega
    · obtain rfl : j = p.jobs.length := by omega
      obtain rfl : es = ents p := by rw [← hes, nomore]; simp [entsFrom]
      have hs1 := hsb.out (ents p) [] (by simp)
      clear hes
      have c0 := hk.cell_ 0 rfl
      have c1 := hk.cell_ 1 rfl
      have c2 := hk.cell_ 2 rfl
      have c3 := hk.cell_ 3 rfl
      have c4 := hk.cell_ 4 rfl
      have c5 := hk.cell_ 5 rfl
      go_wp2_with fail
      refine (after_any ⟨p, aH, cH, aS, cS, aJ, cJ⟩ 0 (sumM m (ents p)) _ (hS.on hB) hv (by omega) (by omega) (by omega) (by omega)).mono ?_
      rintro e W ⟨rfl, hb⟩
      clear c0 c1 c2 c3 c4 c5
      replace hk := hk.below hb hk.lt
      replace hB := hB.trans (hb.mono hB.size)
      clear hb
      have c0 := hk.cell_ 0 rfl
      have c1 := hk.cell_ 1 rfl
      have c2 := hk.cell_ 2 rfl
      have c3 := hk.cell_ 3 rfl
      have c4 := hk.cell_ 4 rfl
      have c5 := hk.cell_ 5 rfl
      go_wp2_with fail
      go_ret
      exact ⟨rfl, hB⟩

theorem fstep0 (a b c d : Value) (w : World) : (Instr.field 69 (.agg #[a, b, c, d]) 0).run Try.prog w = .ok a w := by kernel_rfl
theorem fstep1 (a b c d : Value) (w : World) : (Instr.field 69 (.agg #[a, b, c, d]) 1).run Try.prog w = .ok b w := by kernel_rfl
theorem fstep2 (a b c d : Value) (w : World) : (Instr.field 69 (.agg #[a, b, c, d]) 2).run Try.prog w = .ok c w := by kernel_rfl
theorem fstep3 (a b c d : Value) (w : World) : (Instr.field 69 (.agg #[a, b, c, d]) 3).run Try.prog w = .ok d w := by kernel_rfl
theorem step_at {w : World} {B : Nat} {A : Option Addr} {xs : List Step} {k : Nat} {x : Step} (h : Slc Step.enc 4 w B A xs) (hx : xs[k]? = some x) :
    ∃ b off, A = some ⟨b, off, none⟩ ∧ b < B ∧ w.cell? ⟨b, off + k * 4, none⟩ = some (.int .i64 x.m) ∧ w.cell? ⟨b, off + k * 4 + 1, none⟩ = some (.int .i64 x.mi) ∧ w.cell? ⟨b, off + k * 4 + 2, none⟩ = some (.int .i64 x.c) ∧ w.cell? ⟨b, off + k * 4 + 3, none⟩ = some (.int .i64 x.d) := by
  obtain ⟨b, off, ha, hb, hc⟩ := h k _ hx
  exact ⟨b, off, ha, hb, by simpa using hc 0 _ rfl, hc 1 _ rfl, hc 2 _ rfl, hc 3 _ rfl⟩
theorem at_any (s : Sh) (j k : Nat) (l : List Step) (x : Step) (w : World) (hS : ShAt w w.heap.size s) (hj : s.p.jobs[j]? = some l) (hx : l[k]? = some x) :
    Calls Try.prog 59 #[.agg #[.int .i64 s.p.op, .int .i64 s.p.cl, .slice s.aH s.p.hol.length s.cH, .int .i64 s.p.mach, .slice s.aS s.p.setup.length s.cS, .slice s.aJ s.p.jobs.length s.cJ], .agg #[.int .i64 j, .int .i64 k]] w fun e w' => e = .returned (.agg #[.int .i64 x.m, .int .i64 x.mi, .int .i64 x.c, .int .i64 x.d]) ∧ Below w.heap.size w w' := by
  obtain ⟨b, off, A', c', hA, hb0, hc, hSl⟩ := job_at hS.jobs hj
  have hkl : k < l.length := (List.getElem?_eq_some_iff.1 hx).1
  have hjl : j < s.p.jobs.length := (List.getElem?_eq_some_iff.1 hj).1
  obtain ⟨b2, off2, hA2, hb2, d0, d1, d2, d3⟩ := step_at hSl hx
  obtain ⟨p, aH, cH, aS, cS, aJ, cJ⟩ := s
  dsimp only at *
  subst hA hA2
  have hk := Blk.new w 25 #[.int .i64 p.op, .int .i64 p.cl, .slice aH p.hol.length cH, .int .i64 p.mach, .slice aS p.setup.length cS, .slice (some ⟨b, off, none⟩) p.jobs.length cJ]
  have hB := (Below.refl w.heap.size w).alloc (Nat.le_refl _) (.cells #[.int .i64 p.op, .int .i64 p.cl, .slice aH p.hol.length cH, .int .i64 p.mach, .slice aS p.setup.length cS, .slice (some ⟨b, off, none⟩) p.jobs.length cJ] 25)
  have hz : w.heap.size < (w.alloc (.cells #[.int .i64 p.op, .int .i64 p.cl, .slice aH p.hol.length cH, .int .i64 p.mach, .slice aS p.setup.length cS, .slice (some ⟨b, off, none⟩) p.jobs.length cJ] 25)).heap.size := by simp
  have hz1 : (w.alloc (.cells #[.int .i64 p.op, .int .i64 p.cl, .slice aH p.hol.length cH, .int .i64 p.mach, .slice aS p.setup.length cS, .slice (some ⟨b, off, none⟩) p.jobs.length cJ] 25)).heap.size = w.heap.size + 1 := by simp
  go_enter Try.func59, Try.ntmps59
  go_wp2_with fail
  generalize w.alloc (.cells #[.int .i64 p.op, .int .i64 p.cl, .slice aH p.hol.length cH, .int .i64 p.mach, .slice aS p.setup.length cS, .slice (some ⟨b, off, none⟩) p.jobs.length cJ] 25) = W at *
  have hp := Blk.new W 77 #[.int .i64 j, .int .i64 k]
  have hr := Blk.new (W.alloc (.cells #[.int .i64 j, .int .i64 k] 77)) 69 #[.int .i64 0, .int .i64 0, .int .i64 0, .int .i64 0]
  rw [hz1] at hp
  rw [show (W.alloc (.cells #[.int .i64 j, .int .i64 k] 77)).heap.size = w.heap.size + 2 by simp [hz1]] at hr
  replace hp := hp.alloc (.cells #[.int .i64 0, .int .i64 0, .int .i64 0, .int .i64 0] 69)
  replace hk := (hk.alloc (.cells #[.int .i64 j, .int .i64 k] 77)).alloc (.cells #[.int .i64 0, .int .i64 0, .int .i64 0, .int .i64 0] 69)
  replace hB := (hB.alloc hB.size (.cells #[.int .i64 j, .int .i64 k] 77)).alloc (by simp; omega) (.cells #[.int .i64 0, .int .i64 0, .int .i64 0, .int .i64 0] 69)
  generalize (W.alloc (.cells #[.int .i64 j, .int .i64 k] 77)).alloc (.cells #[.int .i64 0, .int .i64 0, .int .i64 0, .int .i64 0] 69) = W at *
  replace hc := (hB.cell (p := ⟨b, off + j, none⟩) hb0).trans hc
  replace d0 := (hB.cell (p := ⟨b2, off2 + k * 4, none⟩) hb2).trans d0
  replace d1 := (hB.cell (p := ⟨b2, off2 + k * 4 + 1, none⟩) hb2).trans d1
  replace d2 := (hB.cell (p := ⟨b2, off2 + k * 4 + 2, none⟩) hb2).trans d2
  replace d3 := (hB.cell (p := ⟨b2, off2 + k * 4 + 3, none⟩) hb2).trans d3
  go_wp2_with fail
  have c5 := hk.cell_ 5 rfl
  have p0 := hp.cell_ 0 rfl
  have p1 := hp.cell_ 1 rfl
  have r0 := hr.cell_ 0 rfl
  have r1 := hr.cell_ 1 rfl
  have r2 := hr.cell_ 2 rfl
  have r3 := hr.cell_ 3 rfl
  refine wp_region_quiet_tail (C := fun w' => ∃ u : Since W, w' = u.w) 11 (by kernel_rfl) (by kernel_rfl) (Since.start W) ?_
  simp only [List.take_succ_cons, List.take_zero, List.drop_succ_cons, List.drop_zero]
  have y_c5 := Since.cell c5
  have y_p0 := Since.cell p0
  have y_p1 := Since.cell p1
  have y_r0 := Since.cell r0
  have y_r1 := Since.cell r1
  have y_r2 := Since.cell r2
  have y_r3 := Since.cell r3
  have y_hc := Since.cell hc
  have y_d0 := Since.cell d0
  have y_d1 := Since.cell d1
  have y_d2 := Since.cell d2
  have y_d3 := Since.cell d3
  clear c5 p0 p1 r0 r1 r2 r3
  repeat (go_big_quiet_step ((fail)))
  refine wpQuiet_nil ?_
  rintro W ⟨⟨_, hb⟩, rfl⟩
  try dsimp only at hb ⊢
  replace hc : W.cell? _ = _ := y_hc ⟨W, hb⟩
  replace d0 : W.cell? _ = _ := y_d0 ⟨W, hb⟩
  replace d1 : W.cell? _ = _ := y_d1 ⟨W, hb⟩
  replace d2 : W.cell? _ = _ := y_d2 ⟨W, hb⟩
  replace d3 : W.cell? _ = _ := y_d3 ⟨W, hb⟩
  clear y_c5 y_p0 y_p1 y_r0 y_r1 y_r2 y_r3 y_hc y_d0 y_d1 y_d2 y_d3
  replace hk := hk.below hb hk.lt
  replace hp := hp.below hb hp.lt
  replace hr := hr.below hb hr.lt
  replace hB := hB.trans (hb.mono hB.size)
  clear hb
  have c5 := hk.cell_ 5 rfl
  have p0 := hp.cell_ 0 rfl
  have p1 := hp.cell_ 1 rfl
  have r0 := hr.cell_ 0 rfl
  have r1 := hr.cell_ 1 rfl
  have r2 := hr.cell_ 2 rfl
  have r3 := hr.cell_ 3 rfl
  have f0 := hr.frozen 0
  have f1 := hr.frozen 1
  have f2 := hr.frozen 2
  have f3 := hr.frozen 3
  go_wp2_with fail
  refine bodyPost_ret (v := .agg #[.int .i64 x.m, .int .i64 x.mi, .int .i64 x.c, .int .i64 x.d]) (by simp [results, Try.results59, go_sem, r0, r1, r2, r3]) rfl ⟨rfl, ?_⟩
  exact (((hB.setCell (by simp; omega) _).setCell (by simp; omega) _).setCell (by simp; omega) _).setCell (by simp; omega) _

set_option maxRecDepth 100000 in
theorem refLoad_any (s : Sh) (m : Int) (w : World) (hS : ShAt w w.heap.size s) (hv : VShop s.p) :
    Calls Try.prog 32 #[.agg #[.int .i64 s.p.op, .int .i64 s.p.cl, .slice s.aH s.p.hol.length s.cH, .int .i64 s.p.mach, .slice s.aS s.p.setup.length s.cS, .slice s.aJ s.p.jobs.length s.cJ], .int .i64 m] w fun e w' => e = .returned (.int .i64 (loadF s.p m)) ∧ Below w.heap.size w w' := by
  have hen := ents_len hv
  have hsb := hide (fun (es r : List Ent) (h : es ++ r = ents s.p) => sumM_bd hv m h)
  have hk := Blk.new w 25 #[.int .i64 s.p.op, .int .i64 s.p.cl, .slice s.aH s.p.hol.length s.cH, .int .i64 s.p.mach, .slice s.aS s.p.setup.length s.cS, .slice s.aJ s.p.jobs.length s.cJ]
  have hB := (Below.refl w.heap.size w).alloc (Nat.le_refl _) (.cells #[.int .i64 s.p.op, .int .i64 s.p.cl, .slice s.aH s.p.hol.length s.cH, .int .i64 s.p.mach, .slice s.aS s.p.setup.length s.cS, .slice s.aJ s.p.jobs.length s.cJ] 25)
  go_enter Try.func32, Try.ntmps32
  go_wp2_with fail
  generalize w.alloc (.cells #[.int .i64 s.p.op, .int .i64 s.p.cl, .slice s.aH s.p.hol.length s.cH, .int .i64 s.p.mach, .slice s.aS s.p.setup.length s.cS, .slice s.aJ s.p.jobs.length s.cJ] 25) = W at *
  have c0 := hk.cell_ 0 rfl
  have c1 := hk.cell_ 1 rfl
  have c2 := hk.cell_ 2 rfl
  have c3 := hk.cell_ 3 rfl
  have c4 := hk.cell_ 4 rfl
  have c5 := hk.cell_ 5 rfl
  go_wp2_with fail
  refine (refList_any s _ (hS.on hB) hv).mono ?_
  rintro e W ⟨A, c, rfl, hb, hL⟩
  clear c0 c1 c2 c3 c4 c5
  replace hk := hk.below hb hk.lt
  replace hB := hB.trans (hb.mono hB.size)
  clear hb
  have c0 := hk.cell_ 0 rfl
  have c1 := hk.cell_ 1 rfl
  have c2 := hk.cell_ 2 rfl
  have c3 := hk.cell_ 3 rfl
  have c4 := hk.cell_ 4 rfl
  have c5 := hk.cell_ 5 rfl
  clear c0 c1 c2 c3 c4 c5
  go_wp2_with fail
  go_loopw [5, 7] (fun x y W => ∃ k : Nat, x = .int .i64 (sumM m ((ents s.p).take k)) ∧ y = .int .i64 k ∧ k ≤ (ents s.p).length ∧ Blk W w.heap.size 25 #[.int .i64 s.p.op, .int .i64 s.p.cl, .slice s.aH s.p.hol.length s.cH, .int .i64 s.p.mach, .slice s.aS s.p.setup.length s.cS, .slice s.aJ s.p.jobs.length s.cJ] ∧ Slc Ent.pair 2 W W.heap.size A (ents s.p) ∧ Below w.heap.size w W) (fun x y _ => (ents s.p).length - (intOf y).toNat)
  case atStart => exact ⟨0, rfl, rfl, Nat.zero_le _, hk, hL, hB⟩
  case round =>
    clear hk hB hL
    obtain ⟨W, rfl⟩ : ∃ W : World, W = wr := ⟨_, rfl⟩
    obtain ⟨k, rfl, rfl, hk2, hk, hL, hB⟩ := hrel
    have hs1 := hsb.out _ _ (List.take_append_drop k (ents s.p))
    have c0 := hk.cell_ 0 rfl
    have c1 := hk.cell_ 1 rfl
    have c2 := hk.cell_ 2 rfl
    have c3 := hk.cell_ 3 rfl
    have c4 := hk.cell_ 4 rfl
    have c5 := hk.cell_ 5 rfl
    by_cases hlt : k < (ents s.p).length
    · obtain ⟨en, hen1⟩ : ∃ en, (ents s.p)[k]? = some en := ⟨_, List.getElem?_eq_getElem hlt⟩
      have hs2 := hsb.out _ _ (List.take_append_drop (k + 1) (ents s.p))
      have hmem : en ∈ ents s.p := List.mem_of_getElem? hen1
      have hes := ents_step hv hmem
      have v1 := hv.op0
      have v3 := hv.cl
      obtain ⟨l, hj, hx⟩ := ents_mem hmem
      have HJ := hide hj
      have HX := hide hx
      have HSN : Hid (sumM m ((ents s.p).take (k + 1)) = sumM m ((ents s.p).take k) + if en.x.m = m then en.x.mi else 0) := by
        rw [List.take_add_one, hen1]; exact sumM_snoc m _ en
      obtain ⟨b, off, hA, hb2, d0, d1⟩ := hL.at2 hen1 (v0 := .int .i64 en.j) (v1 := .int .i64 en.k) rfl
      clear hj hx hen1
      subst hA
      have fs0 := fstep0
      have fs1 := fstep1
      have HSW := hS.on hB
      by_cases hm : en.x.m = m
      · have hM : (en.x.m == m) = true := by simpa using hm
        have HM := hide hm
        clear hm
        go_wp2_with fail
        refine wp_region_quiet (C := fun w' => ∃ u : Since W, w' = u.w) (by kernel_rfl) (by kernel_rfl) (Since.start W) ?_
        dsimp only
        have y_c0 := Since.cell c0
        have y_c1 := Since.cell c1
        have y_c2 := Since.cell c2
        have y_c3 := Since.cell c3
        have y_c4 := Since.cell c4
        have y_c5 := Since.cell c5
        have y_d0 := Since.cell d0
        have y_d1 := Since.cell d1
        clear c0 c1 c2 c3 c4 c5
        repeat (go_big_quiet_step ((go_at_call 59; exact Since.calls (at_any s en.j en.k l en.x _ (HSW.on (Since.h _)) HJ.out HX.out))))
        refine wpQuiet_nil ?_
        rintro W ⟨⟨_, hb⟩, rfl⟩
        try dsimp only at hb ⊢
        replace d0 : W.cell? _ = _ := y_d0 ⟨W, hb⟩
        replace d1 : W.cell? _ = _ := y_d1 ⟨W, hb⟩
        clear y_c0 y_c1 y_c2 y_c3 y_c4 y_c5 y_d0 y_d1
        replace hk := hk.below hb hk.lt
        replace hL := (hL.below hb).more hb.size
        replace hB := hB.trans (hb.mono hB.size)
        clear hb
        have c0 := hk.cell_ 0 rfl
        have c1 := hk.cell_ 1 rfl
        have c2 := hk.cell_ 2 rfl
        have c3 := hk.cell_ 3 rfl
        have c4 := hk.cell_ 4 rfl
        have c5 := hk.cell_ 5 rfl
        have HSW := hS.on hB
        have hsn : sumM m ((ents s.p).take (k + 1)) = sumM m ((ents s.p).take k) + en.x.mi := by rw [HSN.out, if_pos HM.out]
        have e1 : IntKind.i64.wrap (sumM m ((ents s.p).take k) + en.x.mi) = sumM m ((ents s.p).take k) + en.x.mi := IntWalk.i64_in _ (by omega)
        have HN := hide hsn
        clear hsn
        go_wp2_with fail
        refine wp_region_quiet (C := fun w' => ∃ u : Since W, w' = u.w) (by kernel_rfl) (by kernel_rfl) (Since.start W) ?_
        dsimp only
        have y_c0 := Since.cell c0
        have y_c1 := Since.cell c1
        have y_c2 := Since.cell c2
        have y_c3 := Since.cell c3
        have y_c4 := Since.cell c4
        have y_c5 := Since.cell c5
        have y_d0 := Since.cell d0
        have y_d1 := Since.cell d1
        clear c0 c1 c2 c3 c4 c5
        repeat (go_big_quiet_step ((go_at_call 59; exact Since.calls (at_any s en.j en.k l en.x _ (HSW.on (Since.h _)) HJ.out HX.out))))
        refine wpQuiet_nil ?_
        rintro W ⟨⟨_, hb⟩, rfl⟩
        try dsimp only at hb ⊢
        replace d0 : W.cell? _ = _ := y_d0 ⟨W, hb⟩
        replace d1 : W.cell? _ = _ := y_d1 ⟨W, hb⟩
        clear y_c0 y_c1 y_c2 y_c3 y_c4 y_c5 y_d0 y_d1
        replace hk := hk.below hb hk.lt
        replace hL := (hL.below hb).more hb.size
        replace hB := hB.trans (hb.mono hB.size)
        clear hb
        have c0 := hk.cell_ 0 rfl
        have c1 := hk.cell_ 1 rfl
        have c2 := hk.cell_ 2 rfl
        have c3 := hk.cell_ 3 rfl
        have c4 := hk.cell_ 4 rfl
        have c5 := hk.cell_ 5 rfl
        clear e1
        go_wp2_with fail
        go_roundw
        case rel => exact ⟨k + 1, by rw [HN.out], by go_num, by omega, hk, hL, hB⟩
        case measure => simp [intOf]; omega
      · have hM : (en.x.m == m) = false := by simpa using hm
        have HM := hide hm
        clear hm
        go_wp2_with fail
        refine wp_region_quiet (C := fun w' => ∃ u : Since W, w' = u.w) (by kernel_rfl) (by kernel_rfl) (Since.start W) ?_
        dsimp only
        have y_c0 := Since.cell c0
        have y_c1 := Since.cell c1
        have y_c2 := Since.cell c2
        have y_c3 := Since.cell c3
        have y_c4 := Since.cell c4
        have y_c5 := Since.cell c5
        have y_d0 := Since.cell d0
        have y_d1 := Since.cell d1
        clear c0 c1 c2 c3 c4 c5
        repeat (go_big_quiet_step ((go_at_call 59; exact Since.calls (at_any s en.j en.k l en.x _ (HSW.on (Since.h _)) HJ.out HX.out))))
        refine wpQuiet_nil ?_
        rintro W ⟨⟨_, hb⟩, rfl⟩
        try dsimp only at hb ⊢
        replace d0 : W.cell? _ = _ := y_d0 ⟨W, hb⟩
        replace d1 : W.cell? _ = _ := y_d1 ⟨W, hb⟩
        clear y_c0 y_c1 y_c2 y_c3 y_c4 y_c5 y_d0 y_d1
        replace hk := hk.below hb hk.lt
        replace hL := (hL.below hb).more hb.size
        replace hB := hB.trans (hb.mono hB.size)
        clear hb
        have c0 := hk.cell_ 0 rfl
        have c1 := hk.cell_ 1 rfl
        have c2 := hk.cell_ 2 rfl
        have c3 := hk.cell_ 3 rfl
        have c4 := hk.cell_ 4 rfl
        have c5 := hk.cell_ 5 rfl
        go_wp2_with fail
        go_roundw
        case rel => exact ⟨k + 1, by rw [HSN.out, if_neg HM.out, Int.add_zero], by go_num, by omega, hk, hL, hB⟩
        case measure => simp [intOf]; omega
    · obtain rfl : k = (ents s.p).length := by omega
      rw [List.take_length] at *
      by_cases h0 : sumM m (ents s.p) = 0
      · have H0 := hide h0
        have h0b : (sumM m (ents s.p) == 0) = true := by simpa using h0
        clear h0
        go_wp2_with fail
        go_ret
        exact ⟨ret_int (by unfold loadF; rw [H0.out, after_zero]), hB⟩
      · have h0b : (sumM m (ents s.p) == 0) = false := by simpa using h0
        go_wp2_with fail
        refine (refAfter_any s 0 (sumM m (ents s.p)) _ (hS.on hB) hv (by omega) (by omega) (by omega) (by omega)).mono ?_
        rintro e W ⟨rfl, hb⟩
        clear c0 c1 c2 c3 c4 c5
        replace hk := hk.below hb hk.lt
        replace hL := (hL.below hb).more hb.size
        replace hB := hB.trans (hb.mono hB.size)
        clear hb
        have c0 := hk.cell_ 0 rfl
        have c1 := hk.cell_ 1 rfl
        have c2 := hk.cell_ 2 rfl
        have c3 := hk.cell_ 3 rfl
        have c4 := hk.cell_ 4 rfl
        have c5 := hk.cell_ 5 rfl
        go_wp2_with fail
        go_ret
        exact ⟨rfl, hB⟩
end Go.Proofs.Ytcpnfcnobnjhdaa

/- Plans: the plain words, and what a plan in memory is. -/
namespace Go.Proofs.Ytcpnfcnobnjhdaa
open Go.RowKit
/-- a slice of slices whose elements are told by 'enc' -/
def Nest {α : Type} (enc : α → List Value) (sz : Nat) (w : World) (B : Nat) (A : Option Addr) (ls : List (List α)) : Prop :=
  ∀ (i : Nat) l, ls[i]? = some l → ∃ b off A' c', A = some ⟨b, off, none⟩ ∧ b < B ∧ w.cell? ⟨b, off + i, none⟩ = some (.slice A' l.length c') ∧ Slc enc sz w B A' l
section
variable {α : Type} {enc : α → List Value} {sz : Nat} {w w' : World} {B B' : Nat} {A : Option Addr} {ls : List (List α)}
theorem Nest.nil_ : Nest enc sz w B A ([] : List (List α)) := fun i l h => by simp at h
theorem Nest.keep (h : Nest enc sz w B A ls) (hk : ∀ p : Addr, p.block < B → w'.cell? p = w.cell? p) : Nest enc sz w' B A ls := fun i l hl => by
  obtain ⟨b, off, A', c', hA, hb, hc, hS⟩ := h i l hl
  exact ⟨b, off, A', c', hA, hb, (hk _ hb).trans hc, hS.keep hk⟩
theorem Nest.below (h : Nest enc sz w B A ls) (hb : Below B w w') : Nest enc sz w' B A ls := h.keep fun _ hp => hb.cell hp
theorem Nest.more (h : Nest enc sz w B A ls) (hB : B ≤ B') : Nest enc sz w B' A ls := fun i l hl => by
  obtain ⟨b, off, A', c', hA, hb, hc, hS⟩ := h i l hl
  exact ⟨b, off, A', c', hA, by omega, hc, hS.more hB⟩
theorem Nest.on (h : Nest enc sz w w.heap.size A ls) (hb : Below w.heap.size w w') : Nest enc sz w' w'.heap.size A ls := (h.below hb).more hb.size
theorem Slc.on {xs : List α} (h : Slc enc sz w w.heap.size A xs) (hb : Below w.heap.size w w') : Slc enc sz w' w'.heap.size A xs := (h.below hb).more hb.size
end
/-- a plan: for each job the starts of its steps -/
abbrev Plan (w : World) (B : Nat) (A : Option Addr) (pl : List (List Int)) : Prop := Nest intEnc 1 w B A pl
/-- a step with its job, its number and its start -/
structure At where
  j : Nat
  k : Nat
  t : Int
  x : Step
instance : Inhabited At := ⟨⟨0, 0, 0, ⟨0, 0, 0, 0⟩⟩⟩
def At.enc (a : At) : List Value := [.int .i64 a.j, .int .i64 a.k, .int .i64 a.t, .int .i64 a.x.m, .int .i64 a.x.mi, .int .i64 a.x.c, .int .i64 a.x.d]
def planAt (pl : List (List Int)) (j k : Nat) : Int := (pl.getD j []).getD k 0
def mkAt (pl : List (List Int)) (e : Ent) : At := ⟨e.j, e.k, planAt pl e.j e.k, e.x⟩
def ats (p : Shop) (pl : List (List Int)) : List At := (ents p).map (mkAt pl)
def At.end_ (a : At) : Int := a.t + a.x.mi
def At.dry (a : At) : Int := a.t + a.x.mi + a.x.d
/-- one start for each step, in range -/
def shapeL : List (List Int) → List (List Step) → Bool
  | l :: r, s :: q => decide (l.length = s.length) && l.all (fun t => inB 0 t 100000000) && shapeL r q
  | _, _ => true
def shapedB (p : Shop) (pl : List (List Int)) : Bool := decide (pl.length = p.jobs.length) && shapeL pl p.jobs
theorem shapeL_step {l : List Int} {s : List Step} {pl : List (List Int)} {js : List (List Step)} {i : Nat} (h1 : pl[i]? = some l) (h2 : js[i]? = some s) :
    shapeL (pl.drop i) (js.drop i) = (decide (l.length = s.length) && l.all (fun t => inB 0 t 100000000) && shapeL (pl.drop (i + 1)) (js.drop (i + 1))) := by
  obtain ⟨g1, g2⟩ := List.getElem?_eq_some_iff.1 h1
  obtain ⟨g3, g4⟩ := List.getElem?_eq_some_iff.1 h2
  rw [List.drop_eq_getElem_cons g1, List.drop_eq_getElem_cons g3, g2, g4]; rfl
theorem shapeL_at : ∀ {pl : List (List Int)} {js : List (List Step)}, shapeL pl js = true → ∀ (i : Nat) l s, pl[i]? = some l → js[i]? = some s → l.length = s.length ∧ ∀ (k : Nat) t, l[k]? = some t → 0 ≤ t ∧ t ≤ 100000000
  | [], _, _, i, l, s, h1, _ => by simp at h1
  | _ :: _, [], _, i, l, s, _, h2 => by simp at h2
  | l' :: r, s' :: q, h, i, l, s, h1, h2 => by
    simp only [shapeL, Bool.and_eq_true, decide_eq_true_eq, List.all_eq_true] at h
    cases i with
    | zero =>
      simp at h1 h2; subst h1 h2
      exact ⟨h.1.1, fun k t hk => inB_iff.1 (h.1.2 t (List.mem_of_getElem? hk))⟩
    | succ i => simp at h1 h2; exact shapeL_at h.2 i l s h1 h2
/-- the facts of a shaped plan -/
structure VPlan (p : Shop) (pl : List (List Int)) : Prop where
  len : pl.length = p.jobs.length
  at_ : ∀ (i : Nat) l s, pl[i]? = some l → p.jobs[i]? = some s → l.length = s.length ∧ ∀ (k : Nat) t, l[k]? = some t → 0 ≤ t ∧ t ≤ 100000000
theorem shaped_facts {p : Shop} {pl : List (List Int)} (h : shapedB p pl = true) : VPlan p pl := by
  simp only [shapedB, Bool.and_eq_true, decide_eq_true_eq] at h
  exact ⟨h.1, shapeL_at h.2⟩
theorem VPlan.row {p : Shop} {pl : List (List Int)} (h : VPlan p pl) {j : Nat} {s : List Step} (hj : p.jobs[j]? = some s) : ∃ l, pl[j]? = some l ∧ l.length = s.length := by
  have hl : j < pl.length := by rw [h.len]; exact (List.getElem?_eq_some_iff.1 hj).1
  exact ⟨pl[j], List.getElem?_eq_getElem hl, (h.at_ j _ s (List.getElem?_eq_getElem hl) hj).1⟩
theorem planAt_eq {pl : List (List Int)} {j k : Nat} {l : List Int} {t : Int} (h1 : pl[j]? = some l) (h2 : l[k]? = some t) : planAt pl j k = t := by
  unfold planAt; simp [List.getD_eq_getElem?_getD, h1, h2]
/-- a step of a shaped plan has its start -/
theorem VPlan.start {p : Shop} {pl : List (List Int)} (h : VPlan p pl) {j k : Nat} {s : List Step} {x : Step} (hj : p.jobs[j]? = some s) (hk : s[k]? = some x) : ∃ l t, pl[j]? = some l ∧ l[k]? = some t ∧ planAt pl j k = t ∧ 0 ≤ t ∧ t ≤ 100000000 := by
  obtain ⟨l, hl, hlen⟩ := h.row hj
  have hk' : k < l.length := by rw [hlen]; exact (List.getElem?_eq_some_iff.1 hk).1
  have ht : l[k]? = some l[k] := List.getElem?_eq_getElem hk'
  have hb := (h.at_ j l s hl hj).2 k _ ht
  exact ⟨l, l[k], hl, ht, planAt_eq hl ht, hb⟩
theorem ats_len (p : Shop) (pl : List (List Int)) : (ats p pl).length = (ents p).length := by simp [ats]
theorem ats_at {p : Shop} {pl : List (List Int)} {i : Nat} {a : At} (h : (ats p pl)[i]? = some a) : ∃ e, (ents p)[i]? = some e ∧ mkAt pl e = a := by
  simp [ats] at h; exact h
/-- what is known of an element of the list -/
structure AtOk (p : Shop) (pl : List (List Int)) (a : At) : Prop where
  job : ∃ s, p.jobs[a.j]? = some s ∧ s[a.k]? = some a.x
  start : a.t = planAt pl a.j a.k
  m0 : 0 ≤ a.x.m
  m1 : a.x.m < p.mach
  mi0 : 1 ≤ a.x.mi
  mi1 : a.x.mi ≤ p.cl - p.op
  c0 : 0 ≤ a.x.c
  c1 : a.x.c ≤ 9
  d0 : 0 ≤ a.x.d
  d1 : a.x.d ≤ 10000
  t0 : 0 ≤ a.t
  t1 : a.t ≤ 100000000
theorem ats_ok {p : Shop} (hv : VShop p) {pl : List (List Int)} (hp : VPlan p pl) {a : At} (h : a ∈ ats p pl) : AtOk p pl a := by
  obtain ⟨e, he, rfl⟩ := List.mem_map.1 h
  obtain ⟨s, h1, h2⟩ := ents_mem he
  obtain ⟨m0, m1, mi0, mi1, c0, c1, d0, d1⟩ := ents_step hv he
  obtain ⟨l, t, g1, g2, g3, g4, g5⟩ := hp.start h1 h2
  exact ⟨⟨s, h1, h2⟩, rfl, m0, m1, mi0, mi1, c0, c1, d0, d1, by show 0 ≤ planAt pl e.j e.k; omega, by show planAt pl e.j e.k ≤ _; omega⟩

/-! the judge -/
noncomputable def setupOf (p : Shop) (m : Int) : Int := p.setup.getD m.toNat 0
noncomputable def roomF (p : Shop) (b : At) (c : Int) : Int := if b.x.c = c then b.end_ else b.end_ + setupOf p b.x.m
noncomputable def togB (p : Shop) (a b : At) : Bool := !decide (a.x.m = b.x.m) || decide (roomF p a b.x.c ≤ b.t) || decide (roomF p b a.x.c ≤ a.t)
def shiftBad (p : Shop) : List At → Option At
  | [] => none
  | a :: r => if shiftB p a.t a.x.mi then shiftBad p r else some a
def earlyBad : Int → List At → Option At
  | _, [] => none
  | dr, a :: r => if 0 < a.k ∧ a.t < dr then some a else earlyBad a.dry r
noncomputable def clashBad (p : Shop) : List At → Option At
  | [] => none
  | a :: r => if r.all (togB p a) then clashBad p r else some a
noncomputable def judgeL (p : Shop) (l : List At) : Nat × Nat × Int :=
  match shiftBad p l with
  | some a => (a.j, a.k, 51)
  | none => match earlyBad 0 l with
    | some a => (a.j, a.k, 52)
    | none => match clashBad p l with
      | some a => (a.j, a.k, 53)
      | none => (0, 0, 0)
noncomputable def judgeF (p : Shop) (pl : List (List Int)) : Nat × Nat × Int := if shapedB p pl then judgeL p (ats p pl) else (0, 0, 2)
def V3 (x : Nat × Nat × Int) : Value := .tuple #[.int .i64 x.1, .int .i64 x.2.1, .int .i64 x.2.2]
theorem shiftBad_drop {p : Shop} {l : List At} {k : Nat} {a : At} (h : l[k]? = some a) : shiftBad p (l.drop k) = if shiftB p a.t a.x.mi then shiftBad p (l.drop (k + 1)) else some a := by
  obtain ⟨hl, hf⟩ := List.getElem?_eq_some_iff.1 h
  rw [List.drop_eq_getElem_cons hl, hf]; rfl
theorem earlyBad_drop {dr : Int} {l : List At} {k : Nat} {a : At} (h : l[k]? = some a) : earlyBad dr (l.drop k) = if 0 < a.k ∧ a.t < dr then some a else earlyBad a.dry (l.drop (k + 1)) := by
  obtain ⟨hl, hf⟩ := List.getElem?_eq_some_iff.1 h
  rw [List.drop_eq_getElem_cons hl, hf]; rfl
theorem clashBad_drop {p : Shop} {l : List At} {k : Nat} {a : At} (h : l[k]? = some a) : clashBad p (l.drop k) = if (l.drop (k + 1)).all (togB p a) then clashBad p (l.drop (k + 1)) else some a := by
  obtain ⟨hl, hf⟩ := List.getElem?_eq_some_iff.1 h
  rw [List.drop_eq_getElem_cons hl, hf]; rfl
/-- a step that is not its job's first has the one before it in front of it in the list -/
theorem stepsFrom_get {j : Nat} : ∀ {l : List Step} {k i : Nat} {e : Ent}, (stepsFrom j k l)[i]? = some e → e.j = j ∧ e.k = k + i
  | [], k, i, e, h => by simp [stepsFrom] at h
  | x :: r, k, 0, e, h => by simp [stepsFrom] at h; subst h; exact ⟨rfl, rfl⟩
  | x :: r, k, i + 1, e, h => by
    simp [stepsFrom] at h
    obtain ⟨h1, h2⟩ := stepsFrom_get h
    exact ⟨h1, by omega⟩
theorem entsFrom_prev : ∀ {js : List (List Step)} {j i : Nat} {e : Ent}, (entsFrom j js)[i]? = some e → 0 < e.k → ∃ i', i = i' + 1 ∧ ∃ e', (entsFrom j js)[i']? = some e' ∧ e'.j = e.j ∧ e'.k + 1 = e.k
  | [], j, i, e, h, _ => by simp [entsFrom] at h
  | l :: r, j, i, e, h, hk => by
    simp only [entsFrom] at h ⊢
    by_cases hi : i < (stepsFrom j 0 l).length
    · rw [List.getElem?_append_left hi] at h
      obtain ⟨h1, h2⟩ := stepsFrom_get h
      obtain ⟨i', rfl⟩ : ∃ i', i = i' + 1 := ⟨i - 1, by omega⟩
      have hi' : i' < (stepsFrom j 0 l).length := by omega
      refine ⟨i', rfl, (stepsFrom j 0 l)[i'], by rw [List.getElem?_append_left hi']; exact List.getElem?_eq_getElem hi', ?_⟩
      obtain ⟨g1, g2⟩ := stepsFrom_get (List.getElem?_eq_getElem hi')
      exact ⟨by omega, by omega⟩
    · rw [List.getElem?_append_right (by omega)] at h
      obtain ⟨i', h1, e', h2, h3⟩ := entsFrom_prev h hk
      refine ⟨i' + (stepsFrom j 0 l).length, by omega, e', ?_, h3⟩
      rw [List.getElem?_append_right (by omega)]
      rw [show i' + (stepsFrom j 0 l).length - (stepsFrom j 0 l).length = i' by omega]
      exact h2
theorem ats_prev {p : Shop} {pl : List (List Int)} {i : Nat} {a : At} (h : (ats p pl)[i]? = some a) (hk : 0 < a.k) : ∃ i', i = i' + 1 ∧ ∃ b, (ats p pl)[i']? = some b ∧ b.j = a.j ∧ b.k + 1 = a.k := by
  obtain ⟨e, he, rfl⟩ := ats_at h
  obtain ⟨i', h1, e', h2, h3, h4⟩ := entsFrom_prev he hk
  refine ⟨i', h1, mkAt pl e', ?_, h3, h4⟩
  unfold ats; rw [List.getElem?_map]
  show Option.map _ ((ents p)[i']?) = _
  unfold ents; rw [h2]; rfl
end Go.Proofs.Ytcpnfcnobnjhdaa

/- The law ShopTimes: the walk. -/
namespace Go.Proofs.Ytcpnfcnobnjhdaa
open Go.RowKit

set_option maxRecDepth 200000 in
set_option maxHeartbeats 4000000 in
theorem times_walk (s : Sh) (A B C M : Int) (w : World) (hS : ShAt w w.heap.size s) (hf : Fits s.p) (A0 : 0 ≤ A) (A1 : A ≤ 65535) (B0 : 0 ≤ B) (B1 : B ≤ 65535) (C0 : 0 ≤ C) (C1 : C ≤ 65535) (M0 : 0 ≤ M) (M1 : M ≤ 65535) :
    Calls Try.prog 6 #[.agg #[.int .i64 s.p.op, .int .i64 s.p.cl, .slice s.aH s.p.hol.length s.cH, .int .i64 s.p.mach, .slice s.aS s.p.setup.length s.cS, .slice s.aJ s.p.jobs.length s.cJ], .agg #[.int .u16 A, .int .u16 B, .int .u16 C, .int .u16 M]] w fun e w' => e = .returned (.bool true) ∧ Below w.heap.size w w' := by
  have hk := (Blk.new w 25 #[.int .i64 s.p.op, .int .i64 s.p.cl, .slice s.aH s.p.hol.length s.cH, .int .i64 s.p.mach, .slice s.aS s.p.setup.length s.cS, .slice s.aJ s.p.jobs.length s.cJ]).alloc (.cells #[.int .u16 A, .int .u16 B, .int .u16 C, .int .u16 M] 35)
  have hT := Blk.new (w.alloc (.cells #[.int .i64 s.p.op, .int .i64 s.p.cl, .slice s.aH s.p.hol.length s.cH, .int .i64 s.p.mach, .slice s.aS s.p.setup.length s.cS, .slice s.aJ s.p.jobs.length s.cJ] 25)) 35 #[.int .u16 A, .int .u16 B, .int .u16 C, .int .u16 M]
  have e1 : (w.alloc (.cells #[.int .i64 s.p.op, .int .i64 s.p.cl, .slice s.aH s.p.hol.length s.cH, .int .i64 s.p.mach, .slice s.aS s.p.setup.length s.cS, .slice s.aJ s.p.jobs.length s.cJ] 25)).heap.size = w.heap.size + 1 := by simp
  rw [e1] at hT
  have hw := ((Below.refl w.heap.size w).alloc (Nat.le_refl _) (.cells #[.int .i64 s.p.op, .int .i64 s.p.cl, .slice s.aH s.p.hol.length s.cH, .int .i64 s.p.mach, .slice s.aS s.p.setup.length s.cS, .slice s.aJ s.p.jobs.length s.cJ] 25)).alloc (by simp) (.cells #[.int .u16 A, .int .u16 B, .int .u16 C, .int .u16 M] 35)
  go_enter Try.func6, Try.ntmps6
  go_wp2_with fail
  generalize (w.alloc (.cells #[.int .i64 s.p.op, .int .i64 s.p.cl, .slice s.aH s.p.hol.length s.cH, .int .i64 s.p.mach, .slice s.aS s.p.setup.length s.cS, .slice s.aJ s.p.jobs.length s.cJ] 25)).alloc (.cells #[.int .u16 A, .int .u16 B, .int .u16 C, .int .u16 M] 35) = W at *
  refine (long_any s W (hS.on hw) hf.h1 hf.h2 hf.h3 hf.h4).mono ?_
  rintro e w2 ⟨rfl, hb⟩
  have hb2 := hw.trans (hb.mono hw.size)
  have hk2 := hk.below hb hk.lt
  have hT2 := hT.below hb hT.lt
  clear hk hT hw
  obtain ⟨c0, c1, c2, c3, c4, c5⟩ := shcells hk2
  cases hl : longB s.p
  · go_wp2_with fail
    refine (refValid_any s w2 (hS.on hb2) hf.h1 hf.h2 hf.h3 hf.h4).mono ?_
    rintro e w3 ⟨rfl, hb⟩
    have hb3 := hb2.trans (hb.mono hb2.size)
    have hk3 := hk2.below hb hk2.lt
    have hT3 := hT2.below hb hT2.lt
    clear c0 c1 c2 c3 c4 c5 hk2 hT2
    obtain ⟨c0, c1, c2, c3, c4, c5⟩ := shcells hk3
    cases hvB : validShop s.p
    · go_wp2_with fail
      refine (first_any _).mono ?_
      rintro e w9 ⟨rfl, hb9⟩
      go_wp2_with fail
      go_ret
      exact ⟨rfl, hb3.trans (hb9.mono hb3.size)⟩
    · have hv := valid_facts hvB
      have v1 := hv.op0
      have v2 := hv.opcl
      have v3 := hv.cl
      have t0 := hT3.cell_ 0 rfl
      have t1 := hT3.cell_ 1 rfl
      have t2 := hT3.cell_ 2 rfl
      have t3 := hT3.cell_ 3 rfl
      have hrem0 := Int.emod_nonneg M (show s.p.cl - s.p.op ≠ 0 by omega)
      have hrem1 := Int.emod_lt_of_pos M (show 0 < s.p.cl - s.p.op by omega)
      have hW : ¬ (s.p.cl - s.p.op = 0) := by omega
      go_wp2_with fail
      generalize M % (s.p.cl - s.p.op) = K at *
      have n1 := next_ge hv A0 (m := 1 + K) (by omega)
      have n2 := next_mono hv A0 (u := A + B) (m := 1 + K) (by omega) (by omega)
      have n3 := after_ge hv A0 (m := M % 5000) (by omega)
      have n4 := after_bd hv A0 (m := M % 5000) (by omega) (by omega)
      have n5 := hide (after_worked hv A0 (m := M % 5000) (by omega))
      have o1 := oB_mono hv (t := A) (u := A + B) (by omega)
      have o2 := oB_mono hv (t := A + B) (u := A + B + C) (by omega)
      refine (apiNext_any s A (1 + K) _ (hS.on hb3) hvB).mono ?_
      rintro e w4 ⟨rfl, hb⟩
      rw [nextV_ok (by omega) (by omega) (by omega) (by omega)]
      have hb4 := hb3.trans (hb.mono hb3.size)
      have hk4 := hk3.below hb hk3.lt
      have hT4 := hT3.below hb hT3.lt
      clear c0 c1 c2 c3 c4 c5 t0 t1 t2 t3 hk3 hT3 hb
      obtain ⟨c0, c1, c2, c3, c4, c5⟩ := shcells hk4
      have t0 := hT4.cell_ 0 rfl
      have t1 := hT4.cell_ 1 rfl
      have t2 := hT4.cell_ 2 rfl
      have t3 := hT4.cell_ 3 rfl
      go_wp2_with fail
      refine (apiNext_any s (A + B) (1 + K) _ (hS.on hb4) hvB).mono ?_
      rintro e w5 ⟨rfl, hb⟩
      rw [nextV_ok (by omega) (by omega) (by omega) (by omega)]
      have hb5 := hb4.trans (hb.mono hb4.size)
      have hk5 := hk4.below hb hk4.lt
      have hT5 := hT4.below hb hT4.lt
      clear c0 c1 c2 c3 c4 c5 t0 t1 t2 t3 hk4 hT4 hb
      obtain ⟨c0, c1, c2, c3, c4, c5⟩ := shcells hk5
      have t0 := hT5.cell_ 0 rfl
      have t1 := hT5.cell_ 1 rfl
      have t2 := hT5.cell_ 2 rfl
      have t3 := hT5.cell_ 3 rfl
      go_wp2_with fail
      refine (apiAfter_any s A (M % 5000) _ (hS.on hb5) hvB).mono ?_
      rintro e w6 ⟨rfl, hb⟩
      rw [afterV_ok (by omega) (by omega) (by omega) (by omega)]
      have hb6 := hb5.trans (hb.mono hb5.size)
      have hk6 := hk5.below hb hk5.lt
      have hT6 := hT5.below hb hT5.lt
      clear c0 c1 c2 c3 c4 c5 t0 t1 t2 t3 hk5 hT5 hb
      obtain ⟨c0, c1, c2, c3, c4, c5⟩ := shcells hk6
      have t0 := hT6.cell_ 0 rfl
      have t1 := hT6.cell_ 1 rfl
      have t2 := hT6.cell_ 2 rfl
      have t3 := hT6.cell_ 3 rfl
      go_wp2_with fail
      refine (apiWorked_ok s A (afterF s.p A (M % 5000)) _ (hS.on hb6) hvB (by omega) (by omega) (by omega)).mono ?_
      rintro e w7 ⟨rfl, hb⟩
      rw [n5.out]
      have hb7 := hb6.trans (hb.mono hb6.size)
      have hk7 := hk6.below hb hk6.lt
      have hT7 := hT6.below hb hT6.lt
      clear c0 c1 c2 c3 c4 c5 t0 t1 t2 t3 hk6 hT6 hb
      obtain ⟨c0, c1, c2, c3, c4, c5⟩ := shcells hk7
      have t0 := hT7.cell_ 0 rfl
      have t1 := hT7.cell_ 1 rfl
      have t2 := hT7.cell_ 2 rfl
      have t3 := hT7.cell_ 3 rfl
      go_wp2_with fail
      refine (apiWorked_ok s A (A + B) _ (hS.on hb7) hvB (by omega) (by omega) (by omega)).mono ?_
      rintro e w8 ⟨rfl, hb⟩
      have hb8 := hb7.trans (hb.mono hb7.size)
      have hk8 := hk7.below hb hk7.lt
      have hT8 := hT7.below hb hT7.lt
      clear c0 c1 c2 c3 c4 c5 t0 t1 t2 t3 hk7 hT7 hb
      obtain ⟨c0, c1, c2, c3, c4, c5⟩ := shcells hk8
      have t0 := hT8.cell_ 0 rfl
      have t1 := hT8.cell_ 1 rfl
      have t2 := hT8.cell_ 2 rfl
      have t3 := hT8.cell_ 3 rfl
      go_wp2_with fail
      refine (apiWorked_ok s (A + B) (A + B + C) _ (hS.on hb8) hvB (by omega) (by omega) (by omega)).mono ?_
      rintro e w9 ⟨rfl, hb⟩
      have hb9 := hb8.trans (hb.mono hb8.size)
      have hk9 := hk8.below hb hk8.lt
      have hT9 := hT8.below hb hT8.lt
      clear c0 c1 c2 c3 c4 c5 t0 t1 t2 t3 hk8 hT8 hb
      obtain ⟨c0, c1, c2, c3, c4, c5⟩ := shcells hk9
      have t0 := hT9.cell_ 0 rfl
      have t1 := hT9.cell_ 1 rfl
      have t2 := hT9.cell_ 2 rfl
      have t3 := hT9.cell_ 3 rfl
      go_wp2_with fail
      have p1 := oB_pos hv A0
      have e5 : IntKind.i64.wrap (oB s.p (A + B) - oB s.p A + (oB s.p (A + B + C) - oB s.p (A + B))) = oB s.p (A + B + C) - oB s.p A := by rw [IntWalk.i64_in _ (by omega)]; omega
      refine (apiWorked_ok s A (A + B + C) _ (hS.on hb9) hvB (by omega) (by omega) (by omega)).mono ?_
      rintro e w10 ⟨rfl, hb⟩
      have hb10 := hb9.trans (hb.mono hb9.size)
      have hk10 := hk9.below hb hk9.lt
      have hT10 := hT9.below hb hT9.lt
      clear c0 c1 c2 c3 c4 c5 t0 t1 t2 t3 hk9 hT9 hb
      obtain ⟨c0, c1, c2, c3, c4, c5⟩ := shcells hk10
      have t0 := hT10.cell_ 0 rfl
      have t1 := hT10.cell_ 1 rfl
      have t2 := hT10.cell_ 2 rfl
      have t3 := hT10.cell_ 3 rfl
      go_wp2_with fail
      refine (first_any _).mono ?_
      rintro e w11 ⟨rfl, hb⟩
      go_wp2_with fail
      go_ret
      exact ⟨rfl, hb10.trans (hb.mono hb10.size)⟩
  · go_wp2_with fail
    refine (first_any _).mono ?_
    rintro e w9 ⟨rfl, hb9⟩
    go_wp2_with fail
    go_ret
    exact ⟨rfl, hb2.trans (hb9.mono hb2.size)⟩
end Go.Proofs.Ytcpnfcnobnjhdaa
