/- The laws ShopNexts, ShopAfter, ShopWorked: the walks. -/
import Derived.Test.YtcpnfcnobnjhdaaShopFirst
namespace Go.Proofs.Ytcpnfcnobnjhdaa
open Go.RowKit
theorem shcells {s : Sh} {w : World} {g : Nat} (h : Blk w g 25 #[.int .i64 s.p.op, .int .i64 s.p.cl, .slice s.aH s.p.hol.length s.cH, .int .i64 s.p.mach, .slice s.aS s.p.setup.length s.cS, .slice s.aJ s.p.jobs.length s.cJ]) :
    w.cell? ⟨g, 0, none⟩ = some (.int .i64 s.p.op) ∧ w.cell? ⟨g, 1, none⟩ = some (.int .i64 s.p.cl) ∧ w.cell? ⟨g, 2, none⟩ = some (.slice s.aH s.p.hol.length s.cH) ∧
    w.cell? ⟨g, 3, none⟩ = some (.int .i64 s.p.mach) ∧ w.cell? ⟨g, 4, none⟩ = some (.slice s.aS s.p.setup.length s.cS) ∧ w.cell? ⟨g, 5, none⟩ = some (.slice s.aJ s.p.jobs.length s.cJ) :=
  ⟨h.cell_ 0 rfl, h.cell_ 1 rfl, h.cell_ 2 rfl, h.cell_ 3 rfl, h.cell_ 4 rfl, h.cell_ 5 rfl⟩

set_option maxRecDepth 100000 in
theorem nexts_walk (s : Sh) (t m : Int) (w : World) (hS : ShAt w w.heap.size s) (hf : Fits s.p) (tl : -9223372036854775808 ≤ t) (th : t ≤ 9223372036854775807) (ml : -9223372036854775808 ≤ m) (mh : m ≤ 9223372036854775807) :
    Calls Try.prog 3 #[.agg #[.int .i64 s.p.op, .int .i64 s.p.cl, .slice s.aH s.p.hol.length s.cH, .int .i64 s.p.mach, .slice s.aS s.p.setup.length s.cS, .slice s.aJ s.p.jobs.length s.cJ], .int .i64 t, .int .i64 m] w fun e w' => e = .returned (.bool true) ∧ Below w.heap.size w w' := by
  have hk := Blk.new w 25 #[.int .i64 s.p.op, .int .i64 s.p.cl, .slice s.aH s.p.hol.length s.cH, .int .i64 s.p.mach, .slice s.aS s.p.setup.length s.cS, .slice s.aJ s.p.jobs.length s.cJ]
  have hw := (Below.refl w.heap.size w).alloc (Nat.le_refl _) (.cells #[.int .i64 s.p.op, .int .i64 s.p.cl, .slice s.aH s.p.hol.length s.cH, .int .i64 s.p.mach, .slice s.aS s.p.setup.length s.cS, .slice s.aJ s.p.jobs.length s.cJ] 25)
  go_enter Try.func3, Try.ntmps3
  go_wp2_with fail
  generalize w.alloc (.cells #[.int .i64 s.p.op, .int .i64 s.p.cl, .slice s.aH s.p.hol.length s.cH, .int .i64 s.p.mach, .slice s.aS s.p.setup.length s.cS, .slice s.aJ s.p.jobs.length s.cJ] 25) = W at *
  refine (long_any s W (hS.on hw) hf.h1 hf.h2 hf.h3 hf.h4).mono ?_
  rintro e w2 ⟨rfl, hb⟩
  have hb2 := hw.trans (hb.mono hw.size)
  have hk2 := hk.below hb hk.lt
  have c0 := hk2.cell_ 0 rfl
  have c1 := hk2.cell_ 1 rfl
  have c2 := hk2.cell_ 2 rfl
  have c3 := hk2.cell_ 3 rfl
  have c4 := hk2.cell_ 4 rfl
  have c5 := hk2.cell_ 5 rfl
  cases hl : longB s.p
  · go_wp2_with fail
    refine (refValid_any s w2 (hS.on hb2) hf.h1 hf.h2 hf.h3 hf.h4).mono ?_
    rintro e w3 ⟨rfl, hb⟩
    have hb3 := hb2.trans (hb.mono hb2.size)
    have hk3 := hk2.below hb hk2.lt
    cases hvB : validShop s.p
    · go_wp2_with fail
      refine (first_any _).mono ?_
      rintro e w4 ⟨rfl, hb⟩
      have hb4 := hb3.trans (hb.mono hb3.size)
      go_wp2_with fail
      go_ret
      exact ⟨rfl, hb4⟩
    · have hv := valid_facts hvB
      have v1 := hv.op0
      have v2 := hv.opcl
      have v3 := hv.cl
      clear c0 c1 c2 c3 c4 c5
      have c0 := hk3.cell_ 0 rfl
      have c1 := hk3.cell_ 1 rfl
      have c2 := hk3.cell_ 2 rfl
      have c3 := hk3.cell_ 3 rfl
      have c4 := hk3.cell_ 4 rfl
      have c5 := hk3.cell_ 5 rfl
      go_wp2_with fail
      refine (apiNext_any s t m _ (hS.on hb3) hvB).mono ?_
      rintro e w4 ⟨rfl, hb⟩
      have hb4 := hb3.trans (hb.mono hb3.size)
      have hk4 := hk3.below hb hk3.lt
      clear c0 c1 c2 c3 c4 c5
      have c0 := hk4.cell_ 0 rfl
      have c1 := hk4.cell_ 1 rfl
      have c2 := hk4.cell_ 2 rfl
      have c3 := hk4.cell_ 3 rfl
      have c4 := hk4.cell_ 4 rfl
      have c5 := hk4.cell_ 5 rfl
      by_cases t0 : t < 0
      · rw [nextV_no (.inl (inB_false.2 (by omega)))]
        go_wp2_with fail
        refine (first_any _).mono ?_
        rintro e w5 ⟨rfl, hb⟩
        go_wp2_with fail
        go_ret
        exact ⟨rfl, hb4.trans (hb.mono hb4.size)⟩
      by_cases t1 : 100000000 < t
      · rw [nextV_no (.inl (inB_false.2 (by omega)))]
        go_wp2_with fail
        refine (first_any _).mono ?_
        rintro e w5 ⟨rfl, hb⟩
        go_wp2_with fail
        go_ret
        exact ⟨rfl, hb4.trans (hb.mono hb4.size)⟩
      by_cases m0 : m < 1
      · rw [nextV_no (.inr (inB_false.2 (by omega)))]
        go_wp2_with fail
        refine (first_any _).mono ?_
        rintro e w5 ⟨rfl, hb⟩
        go_wp2_with fail
        go_ret
        exact ⟨rfl, hb4.trans (hb.mono hb4.size)⟩
      by_cases m1 : s.p.cl - s.p.op < m
      · rw [nextV_no (.inr (inB_false.2 (by omega)))]
        go_wp2_with fail
        refine (first_any _).mono ?_
        rintro e w5 ⟨rfl, hb⟩
        go_wp2_with fail
        go_ret
        exact ⟨rfl, hb4.trans (hb.mono hb4.size)⟩
      rw [nextV_ok (by omega) (by omega) (by omega) (by omega)]
      go_wp2_with fail
      refine (refNext_any s t m _ (hS.on hb4) hv (by omega) (by omega) (by omega) (by omega)).mono ?_
      rintro e w5 ⟨rfl, hb⟩
      have hb5 := hb4.trans (hb.mono hb4.size)
      go_wp2_with fail
      refine (first_any _).mono ?_
      rintro e w6 ⟨rfl, hb⟩
      go_wp2_with fail
      go_ret
      exact ⟨rfl, hb5.trans (hb.mono hb5.size)⟩
  · go_wp2_with fail
    refine (first_any _).mono ?_
    rintro e w4 ⟨rfl, hb⟩
    go_wp2_with fail
    go_ret
    exact ⟨rfl, hb2.trans (hb.mono hb2.size)⟩

set_option maxRecDepth 100000 in
set_option maxHeartbeats 1000000 in
theorem after_walk (s : Sh) (t m : Int) (w : World) (hS : ShAt w w.heap.size s) (hf : Fits s.p) (tl : -9223372036854775808 ≤ t) (th : t ≤ 9223372036854775807) (ml : -9223372036854775808 ≤ m) (mh : m ≤ 9223372036854775807) :
    Calls Try.prog 4 #[.agg #[.int .i64 s.p.op, .int .i64 s.p.cl, .slice s.aH s.p.hol.length s.cH, .int .i64 s.p.mach, .slice s.aS s.p.setup.length s.cS, .slice s.aJ s.p.jobs.length s.cJ], .int .i64 t, .int .i64 m] w fun e w' => e = .returned (.bool true) ∧ Below w.heap.size w w' := by
  have hk := Blk.new w 25 #[.int .i64 s.p.op, .int .i64 s.p.cl, .slice s.aH s.p.hol.length s.cH, .int .i64 s.p.mach, .slice s.aS s.p.setup.length s.cS, .slice s.aJ s.p.jobs.length s.cJ]
  have hw := (Below.refl w.heap.size w).alloc (Nat.le_refl _) (.cells #[.int .i64 s.p.op, .int .i64 s.p.cl, .slice s.aH s.p.hol.length s.cH, .int .i64 s.p.mach, .slice s.aS s.p.setup.length s.cS, .slice s.aJ s.p.jobs.length s.cJ] 25)
  by_cases t0 : t < 0
  · go_enter Try.func4, Try.ntmps4
    go_wp2_with fail
    generalize w.alloc (.cells #[.int .i64 s.p.op, .int .i64 s.p.cl, .slice s.aH s.p.hol.length s.cH, .int .i64 s.p.mach, .slice s.aS s.p.setup.length s.cS, .slice s.aJ s.p.jobs.length s.cJ] 25) = W at *
    refine (long_any s W (hS.on hw) hf.h1 hf.h2 hf.h3 hf.h4).mono ?_
    rintro e w2 ⟨rfl, hb⟩
    have hb2 := hw.trans (hb.mono hw.size)
    have hk2 := hk.below hb hk.lt
    obtain ⟨c0, c1, c2, c3, c4, c5⟩ := shcells hk2
    cases hl : longB s.p
    · go_wp2_with fail
      refine (refValid_any s w2 (hS.on hb2) hf.h1 hf.h2 hf.h3 hf.h4).mono ?_
      rintro e w3 ⟨rfl, hb⟩
      have hb3 := hb2.trans (hb.mono hb2.size)
      have hk3 := hk2.below hb hk2.lt
      clear c0 c1 c2 c3 c4 c5
      obtain ⟨c0, c1, c2, c3, c4, c5⟩ := shcells hk3
      cases hvB : validShop s.p
      · go_wp2_with fail
        refine (first_any _).mono ?_
        rintro e w9 ⟨rfl, hb9⟩
        go_wp2_with fail
        go_ret
        exact ⟨rfl, hb3.trans (hb9.mono hb3.size)⟩
      · have hv := valid_facts hvB
        have v1 := hv.op0
        have v2 := hv.opcl
        have v3 := hv.cl
        go_wp2_with fail
        refine (apiAfter_any s t m _ (hS.on hb3) hvB).mono ?_
        rintro e w4 ⟨rfl, hb⟩
        have hb4 := hb3.trans (hb.mono hb3.size)
        rw [afterV_no (.inl (inB_false.2 (by omega)))]
        go_wp2_with fail
        refine (first_any _).mono ?_
        rintro e w9 ⟨rfl, hb9⟩
        go_wp2_with fail
        go_ret
        exact ⟨rfl, hb4.trans (hb9.mono hb4.size)⟩
    · go_wp2_with fail
      refine (first_any _).mono ?_
      rintro e w9 ⟨rfl, hb9⟩
      go_wp2_with fail
      go_ret
      exact ⟨rfl, hb2.trans (hb9.mono hb2.size)⟩
  by_cases t1 : 100000000 < t
  · go_enter Try.func4, Try.ntmps4
    go_wp2_with fail
    generalize w.alloc (.cells #[.int .i64 s.p.op, .int .i64 s.p.cl, .slice s.aH s.p.hol.length s.cH, .int .i64 s.p.mach, .slice s.aS s.p.setup.length s.cS, .slice s.aJ s.p.jobs.length s.cJ] 25) = W at *
    refine (long_any s W (hS.on hw) hf.h1 hf.h2 hf.h3 hf.h4).mono ?_
    rintro e w2 ⟨rfl, hb⟩
    have hb2 := hw.trans (hb.mono hw.size)
    have hk2 := hk.below hb hk.lt
    obtain ⟨c0, c1, c2, c3, c4, c5⟩ := shcells hk2
    cases hl : longB s.p
    · go_wp2_with fail
      refine (refValid_any s w2 (hS.on hb2) hf.h1 hf.h2 hf.h3 hf.h4).mono ?_
      rintro e w3 ⟨rfl, hb⟩
      have hb3 := hb2.trans (hb.mono hb2.size)
      have hk3 := hk2.below hb hk2.lt
      clear c0 c1 c2 c3 c4 c5
      obtain ⟨c0, c1, c2, c3, c4, c5⟩ := shcells hk3
      cases hvB : validShop s.p
      · go_wp2_with fail
        refine (first_any _).mono ?_
        rintro e w9 ⟨rfl, hb9⟩
        go_wp2_with fail
        go_ret
        exact ⟨rfl, hb3.trans (hb9.mono hb3.size)⟩
      · have hv := valid_facts hvB
        have v1 := hv.op0
        have v2 := hv.opcl
        have v3 := hv.cl
        go_wp2_with fail
        refine (apiAfter_any s t m _ (hS.on hb3) hvB).mono ?_
        rintro e w4 ⟨rfl, hb⟩
        have hb4 := hb3.trans (hb.mono hb3.size)
        rw [afterV_no (.inl (inB_false.2 (by omega)))]
        go_wp2_with fail
        refine (first_any _).mono ?_
        rintro e w9 ⟨rfl, hb9⟩
        go_wp2_with fail
        go_ret
        exact ⟨rfl, hb4.trans (hb9.mono hb4.size)⟩
    · go_wp2_with fail
      refine (first_any _).mono ?_
      rintro e w9 ⟨rfl, hb9⟩
      go_wp2_with fail
      go_ret
      exact ⟨rfl, hb2.trans (hb9.mono hb2.size)⟩
  by_cases m0 : m < 0
  · go_enter Try.func4, Try.ntmps4
    go_wp2_with fail
    generalize w.alloc (.cells #[.int .i64 s.p.op, .int .i64 s.p.cl, .slice s.aH s.p.hol.length s.cH, .int .i64 s.p.mach, .slice s.aS s.p.setup.length s.cS, .slice s.aJ s.p.jobs.length s.cJ] 25) = W at *
    refine (long_any s W (hS.on hw) hf.h1 hf.h2 hf.h3 hf.h4).mono ?_
    rintro e w2 ⟨rfl, hb⟩
    have hb2 := hw.trans (hb.mono hw.size)
    have hk2 := hk.below hb hk.lt
    obtain ⟨c0, c1, c2, c3, c4, c5⟩ := shcells hk2
    cases hl : longB s.p
    · go_wp2_with fail
      refine (refValid_any s w2 (hS.on hb2) hf.h1 hf.h2 hf.h3 hf.h4).mono ?_
      rintro e w3 ⟨rfl, hb⟩
      have hb3 := hb2.trans (hb.mono hb2.size)
      have hk3 := hk2.below hb hk2.lt
      clear c0 c1 c2 c3 c4 c5
      obtain ⟨c0, c1, c2, c3, c4, c5⟩ := shcells hk3
      cases hvB : validShop s.p
      · go_wp2_with fail
        refine (first_any _).mono ?_
        rintro e w9 ⟨rfl, hb9⟩
        go_wp2_with fail
        go_ret
        exact ⟨rfl, hb3.trans (hb9.mono hb3.size)⟩
      · have hv := valid_facts hvB
        have v1 := hv.op0
        have v2 := hv.opcl
        have v3 := hv.cl
        go_wp2_with fail
        refine (apiAfter_any s t m _ (hS.on hb3) hvB).mono ?_
        rintro e w4 ⟨rfl, hb⟩
        have hb4 := hb3.trans (hb.mono hb3.size)
        rw [afterV_no (.inr (inB_false.2 (by omega)))]
        go_wp2_with fail
        refine (first_any _).mono ?_
        rintro e w9 ⟨rfl, hb9⟩
        go_wp2_with fail
        go_ret
        exact ⟨rfl, hb4.trans (hb9.mono hb4.size)⟩
    · go_wp2_with fail
      refine (first_any _).mono ?_
      rintro e w9 ⟨rfl, hb9⟩
      go_wp2_with fail
      go_ret
      exact ⟨rfl, hb2.trans (hb9.mono hb2.size)⟩
  by_cases m1 : 1000000 < m
  · go_enter Try.func4, Try.ntmps4
    go_wp2_with fail
    generalize w.alloc (.cells #[.int .i64 s.p.op, .int .i64 s.p.cl, .slice s.aH s.p.hol.length s.cH, .int .i64 s.p.mach, .slice s.aS s.p.setup.length s.cS, .slice s.aJ s.p.jobs.length s.cJ] 25) = W at *
    refine (long_any s W (hS.on hw) hf.h1 hf.h2 hf.h3 hf.h4).mono ?_
    rintro e w2 ⟨rfl, hb⟩
    have hb2 := hw.trans (hb.mono hw.size)
    have hk2 := hk.below hb hk.lt
    obtain ⟨c0, c1, c2, c3, c4, c5⟩ := shcells hk2
    cases hl : longB s.p
    · go_wp2_with fail
      refine (refValid_any s w2 (hS.on hb2) hf.h1 hf.h2 hf.h3 hf.h4).mono ?_
      rintro e w3 ⟨rfl, hb⟩
      have hb3 := hb2.trans (hb.mono hb2.size)
      have hk3 := hk2.below hb hk2.lt
      clear c0 c1 c2 c3 c4 c5
      obtain ⟨c0, c1, c2, c3, c4, c5⟩ := shcells hk3
      cases hvB : validShop s.p
      · go_wp2_with fail
        refine (first_any _).mono ?_
        rintro e w9 ⟨rfl, hb9⟩
        go_wp2_with fail
        go_ret
        exact ⟨rfl, hb3.trans (hb9.mono hb3.size)⟩
      · have hv := valid_facts hvB
        have v1 := hv.op0
        have v2 := hv.opcl
        have v3 := hv.cl
        go_wp2_with fail
        refine (apiAfter_any s t m _ (hS.on hb3) hvB).mono ?_
        rintro e w4 ⟨rfl, hb⟩
        have hb4 := hb3.trans (hb.mono hb3.size)
        rw [afterV_no (.inr (inB_false.2 (by omega)))]
        go_wp2_with fail
        refine (first_any _).mono ?_
        rintro e w9 ⟨rfl, hb9⟩
        go_wp2_with fail
        go_ret
        exact ⟨rfl, hb4.trans (hb9.mono hb4.size)⟩
    · go_wp2_with fail
      refine (first_any _).mono ?_
      rintro e w9 ⟨rfl, hb9⟩
      go_wp2_with fail
      go_ret
      exact ⟨rfl, hb2.trans (hb9.mono hb2.size)⟩
  by_cases hcut : 20000 < m
  · go_enter Try.func4, Try.ntmps4
    go_wp2_with fail
    generalize w.alloc (.cells #[.int .i64 s.p.op, .int .i64 s.p.cl, .slice s.aH s.p.hol.length s.cH, .int .i64 s.p.mach, .slice s.aS s.p.setup.length s.cS, .slice s.aJ s.p.jobs.length s.cJ] 25) = W at *
    refine (long_any s W (hS.on hw) hf.h1 hf.h2 hf.h3 hf.h4).mono ?_
    rintro e w2 ⟨rfl, hb⟩
    have hb2 := hw.trans (hb.mono hw.size)
    have hk2 := hk.below hb hk.lt
    obtain ⟨c0, c1, c2, c3, c4, c5⟩ := shcells hk2
    cases hl : longB s.p
    · go_wp2_with fail
      refine (refValid_any s w2 (hS.on hb2) hf.h1 hf.h2 hf.h3 hf.h4).mono ?_
      rintro e w3 ⟨rfl, hb⟩
      have hb3 := hb2.trans (hb.mono hb2.size)
      have hk3 := hk2.below hb hk2.lt
      clear c0 c1 c2 c3 c4 c5
      obtain ⟨c0, c1, c2, c3, c4, c5⟩ := shcells hk3
      cases hvB : validShop s.p
      · go_wp2_with fail
        refine (first_any _).mono ?_
        rintro e w9 ⟨rfl, hb9⟩
        go_wp2_with fail
        go_ret
        exact ⟨rfl, hb3.trans (hb9.mono hb3.size)⟩
      · have hv := valid_facts hvB
        have v1 := hv.op0
        have v2 := hv.opcl
        have v3 := hv.cl
        go_wp2_with fail
        refine (first_any _).mono ?_
        rintro e w9 ⟨rfl, hb9⟩
        go_wp2_with fail
        go_ret
        exact ⟨rfl, hb3.trans (hb9.mono hb3.size)⟩
    · go_wp2_with fail
      refine (first_any _).mono ?_
      rintro e w9 ⟨rfl, hb9⟩
      go_wp2_with fail
      go_ret
      exact ⟨rfl, hb2.trans (hb9.mono hb2.size)⟩
  go_enter Try.func4, Try.ntmps4
  go_wp2_with fail
  generalize w.alloc (.cells #[.int .i64 s.p.op, .int .i64 s.p.cl, .slice s.aH s.p.hol.length s.cH, .int .i64 s.p.mach, .slice s.aS s.p.setup.length s.cS, .slice s.aJ s.p.jobs.length s.cJ] 25) = W at *
  refine (long_any s W (hS.on hw) hf.h1 hf.h2 hf.h3 hf.h4).mono ?_
  rintro e w2 ⟨rfl, hb⟩
  have hb2 := hw.trans (hb.mono hw.size)
  have hk2 := hk.below hb hk.lt
  obtain ⟨c0, c1, c2, c3, c4, c5⟩ := shcells hk2
  cases hl : longB s.p
  · go_wp2_with fail
    refine (refValid_any s w2 (hS.on hb2) hf.h1 hf.h2 hf.h3 hf.h4).mono ?_
    rintro e w3 ⟨rfl, hb⟩
    have hb3 := hb2.trans (hb.mono hb2.size)
    have hk3 := hk2.below hb hk2.lt
    clear c0 c1 c2 c3 c4 c5
    obtain ⟨c0, c1, c2, c3, c4, c5⟩ := shcells hk3
    cases hvB : validShop s.p
    · go_wp2_with fail
      refine (first_any _).mono ?_
      rintro e w9 ⟨rfl, hb9⟩
      go_wp2_with fail
      go_ret
      exact ⟨rfl, hb3.trans (hb9.mono hb3.size)⟩
    · have hv := valid_facts hvB
      have v1 := hv.op0
      have v2 := hv.opcl
      have v3 := hv.cl
      go_wp2_with fail
      refine (apiAfter_any s t m _ (hS.on hb3) hvB).mono ?_
      rintro e w4 ⟨rfl, hb⟩
      have hb4 := hb3.trans (hb.mono hb3.size)
      have hk4 := hk3.below hb hk3.lt
      clear c0 c1 c2 c3 c4 c5
      obtain ⟨c0, c1, c2, c3, c4, c5⟩ := shcells hk4
      rw [afterV_ok (by omega) (by omega) (by omega) (by omega)]
      go_wp2_with fail
      refine (refAfter_any s t m _ (hS.on hb4) hv (by omega) (by omega) (by omega) (by omega)).mono ?_
      rintro e w5 ⟨rfl, hb⟩
      have hb5 := hb4.trans (hb.mono hb4.size)
      go_wp2_with fail
      refine (first_any _).mono ?_
      rintro e w9 ⟨rfl, hb9⟩
      go_wp2_with fail
      go_ret
      exact ⟨rfl, hb5.trans (hb9.mono hb5.size)⟩
  · go_wp2_with fail
    refine (first_any _).mono ?_
    rintro e w9 ⟨rfl, hb9⟩
    go_wp2_with fail
    go_ret
    exact ⟨rfl, hb2.trans (hb9.mono hb2.size)⟩

set_option maxRecDepth 100000 in
set_option maxHeartbeats 1000000 in
theorem worked_walk (s : Sh) (t m : Int) (w : World) (hS : ShAt w w.heap.size s) (hf : Fits s.p) (tl : -9223372036854775808 ≤ t) (th : t ≤ 9223372036854775807) (ml : -9223372036854775808 ≤ m) (mh : m ≤ 9223372036854775807) :
    Calls Try.prog 5 #[.agg #[.int .i64 s.p.op, .int .i64 s.p.cl, .slice s.aH s.p.hol.length s.cH, .int .i64 s.p.mach, .slice s.aS s.p.setup.length s.cS, .slice s.aJ s.p.jobs.length s.cJ], .int .i64 t, .int .i64 m] w fun e w' => e = .returned (.bool true) ∧ Below w.heap.size w w' := by
  have hk := Blk.new w 25 #[.int .i64 s.p.op, .int .i64 s.p.cl, .slice s.aH s.p.hol.length s.cH, .int .i64 s.p.mach, .slice s.aS s.p.setup.length s.cS, .slice s.aJ s.p.jobs.length s.cJ]
  have hw := (Below.refl w.heap.size w).alloc (Nat.le_refl _) (.cells #[.int .i64 s.p.op, .int .i64 s.p.cl, .slice s.aH s.p.hol.length s.cH, .int .i64 s.p.mach, .slice s.aS s.p.setup.length s.cS, .slice s.aJ s.p.jobs.length s.cJ] 25)
  by_cases t0 : t < 0
  · go_enter Try.func5, Try.ntmps5
    go_wp2_with fail
    generalize w.alloc (.cells #[.int .i64 s.p.op, .int .i64 s.p.cl, .slice s.aH s.p.hol.length s.cH, .int .i64 s.p.mach, .slice s.aS s.p.setup.length s.cS, .slice s.aJ s.p.jobs.length s.cJ] 25) = W at *
    refine (long_any s W (hS.on hw) hf.h1 hf.h2 hf.h3 hf.h4).mono ?_
    rintro e w2 ⟨rfl, hb⟩
    have hb2 := hw.trans (hb.mono hw.size)
    have hk2 := hk.below hb hk.lt
    obtain ⟨c0, c1, c2, c3, c4, c5⟩ := shcells hk2
    cases hl : longB s.p
    · go_wp2_with fail
      refine (refValid_any s w2 (hS.on hb2) hf.h1 hf.h2 hf.h3 hf.h4).mono ?_
      rintro e w3 ⟨rfl, hb⟩
      have hb3 := hb2.trans (hb.mono hb2.size)
      have hk3 := hk2.below hb hk2.lt
      clear c0 c1 c2 c3 c4 c5
      obtain ⟨c0, c1, c2, c3, c4, c5⟩ := shcells hk3
      cases hvB : validShop s.p
      · go_wp2_with fail
        refine (first_any _).mono ?_
        rintro e w9 ⟨rfl, hb9⟩
        go_wp2_with fail
        go_ret
        exact ⟨rfl, hb3.trans (hb9.mono hb3.size)⟩
      · have hv := valid_facts hvB
        have v1 := hv.op0
        have v2 := hv.opcl
        have v3 := hv.cl
        go_wp2_with fail
        refine (apiWorked_err s t m _ (hS.on hb3) hvB (by omega)).mono ?_
        rintro e w4 ⟨rfl, hb⟩
        have hb4 := hb3.trans (hb.mono hb3.size)
        go_wp2_with fail
        refine (first_any _).mono ?_
        rintro e w9 ⟨rfl, hb9⟩
        go_wp2_with fail
        go_ret
        exact ⟨rfl, hb4.trans (hb9.mono hb4.size)⟩
    · go_wp2_with fail
      refine (first_any _).mono ?_
      rintro e w9 ⟨rfl, hb9⟩
      go_wp2_with fail
      go_ret
      exact ⟨rfl, hb2.trans (hb9.mono hb2.size)⟩
  by_cases t1 : m < t
  · go_enter Try.func5, Try.ntmps5
    go_wp2_with fail
    generalize w.alloc (.cells #[.int .i64 s.p.op, .int .i64 s.p.cl, .slice s.aH s.p.hol.length s.cH, .int .i64 s.p.mach, .slice s.aS s.p.setup.length s.cS, .slice s.aJ s.p.jobs.length s.cJ] 25) = W at *
    refine (long_any s W (hS.on hw) hf.h1 hf.h2 hf.h3 hf.h4).mono ?_
    rintro e w2 ⟨rfl, hb⟩
    have hb2 := hw.trans (hb.mono hw.size)
    have hk2 := hk.below hb hk.lt
    obtain ⟨c0, c1, c2, c3, c4, c5⟩ := shcells hk2
    cases hl : longB s.p
    · go_wp2_with fail
      refine (refValid_any s w2 (hS.on hb2) hf.h1 hf.h2 hf.h3 hf.h4).mono ?_
      rintro e w3 ⟨rfl, hb⟩
      have hb3 := hb2.trans (hb.mono hb2.size)
      have hk3 := hk2.below hb hk2.lt
      clear c0 c1 c2 c3 c4 c5
      obtain ⟨c0, c1, c2, c3, c4, c5⟩ := shcells hk3
      cases hvB : validShop s.p
      · go_wp2_with fail
        refine (first_any _).mono ?_
        rintro e w9 ⟨rfl, hb9⟩
        go_wp2_with fail
        go_ret
        exact ⟨rfl, hb3.trans (hb9.mono hb3.size)⟩
      · have hv := valid_facts hvB
        have v1 := hv.op0
        have v2 := hv.opcl
        have v3 := hv.cl
        go_wp2_with fail
        refine (apiWorked_err s t m _ (hS.on hb3) hvB (by omega)).mono ?_
        rintro e w4 ⟨rfl, hb⟩
        have hb4 := hb3.trans (hb.mono hb3.size)
        go_wp2_with fail
        refine (first_any _).mono ?_
        rintro e w9 ⟨rfl, hb9⟩
        go_wp2_with fail
        go_ret
        exact ⟨rfl, hb4.trans (hb9.mono hb4.size)⟩
    · go_wp2_with fail
      refine (first_any _).mono ?_
      rintro e w9 ⟨rfl, hb9⟩
      go_wp2_with fail
      go_ret
      exact ⟨rfl, hb2.trans (hb9.mono hb2.size)⟩
  by_cases m0 : 100000000 < m
  · go_enter Try.func5, Try.ntmps5
    go_wp2_with fail
    generalize w.alloc (.cells #[.int .i64 s.p.op, .int .i64 s.p.cl, .slice s.aH s.p.hol.length s.cH, .int .i64 s.p.mach, .slice s.aS s.p.setup.length s.cS, .slice s.aJ s.p.jobs.length s.cJ] 25) = W at *
    refine (long_any s W (hS.on hw) hf.h1 hf.h2 hf.h3 hf.h4).mono ?_
    rintro e w2 ⟨rfl, hb⟩
    have hb2 := hw.trans (hb.mono hw.size)
    have hk2 := hk.below hb hk.lt
    obtain ⟨c0, c1, c2, c3, c4, c5⟩ := shcells hk2
    cases hl : longB s.p
    · go_wp2_with fail
      refine (refValid_any s w2 (hS.on hb2) hf.h1 hf.h2 hf.h3 hf.h4).mono ?_
      rintro e w3 ⟨rfl, hb⟩
      have hb3 := hb2.trans (hb.mono hb2.size)
      have hk3 := hk2.below hb hk2.lt
      clear c0 c1 c2 c3 c4 c5
      obtain ⟨c0, c1, c2, c3, c4, c5⟩ := shcells hk3
      cases hvB : validShop s.p
      · go_wp2_with fail
        refine (first_any _).mono ?_
        rintro e w9 ⟨rfl, hb9⟩
        go_wp2_with fail
        go_ret
        exact ⟨rfl, hb3.trans (hb9.mono hb3.size)⟩
      · have hv := valid_facts hvB
        have v1 := hv.op0
        have v2 := hv.opcl
        have v3 := hv.cl
        go_wp2_with fail
        refine (apiWorked_err s t m _ (hS.on hb3) hvB (by omega)).mono ?_
        rintro e w4 ⟨rfl, hb⟩
        have hb4 := hb3.trans (hb.mono hb3.size)
        go_wp2_with fail
        refine (first_any _).mono ?_
        rintro e w9 ⟨rfl, hb9⟩
        go_wp2_with fail
        go_ret
        exact ⟨rfl, hb4.trans (hb9.mono hb4.size)⟩
    · go_wp2_with fail
      refine (first_any _).mono ?_
      rintro e w9 ⟨rfl, hb9⟩
      go_wp2_with fail
      go_ret
      exact ⟨rfl, hb2.trans (hb9.mono hb2.size)⟩
  by_cases hcut : 3000000 < m - t
  · go_enter Try.func5, Try.ntmps5
    go_wp2_with fail
    generalize w.alloc (.cells #[.int .i64 s.p.op, .int .i64 s.p.cl, .slice s.aH s.p.hol.length s.cH, .int .i64 s.p.mach, .slice s.aS s.p.setup.length s.cS, .slice s.aJ s.p.jobs.length s.cJ] 25) = W at *
    refine (long_any s W (hS.on hw) hf.h1 hf.h2 hf.h3 hf.h4).mono ?_
    rintro e w2 ⟨rfl, hb⟩
    have hb2 := hw.trans (hb.mono hw.size)
    have hk2 := hk.below hb hk.lt
    obtain ⟨c0, c1, c2, c3, c4, c5⟩ := shcells hk2
    cases hl : longB s.p
    · go_wp2_with fail
      refine (refValid_any s w2 (hS.on hb2) hf.h1 hf.h2 hf.h3 hf.h4).mono ?_
      rintro e w3 ⟨rfl, hb⟩
      have hb3 := hb2.trans (hb.mono hb2.size)
      have hk3 := hk2.below hb hk2.lt
      clear c0 c1 c2 c3 c4 c5
      obtain ⟨c0, c1, c2, c3, c4, c5⟩ := shcells hk3
      cases hvB : validShop s.p
      · go_wp2_with fail
        refine (first_any _).mono ?_
        rintro e w9 ⟨rfl, hb9⟩
        go_wp2_with fail
        go_ret
        exact ⟨rfl, hb3.trans (hb9.mono hb3.size)⟩
      · have hv := valid_facts hvB
        have v1 := hv.op0
        have v2 := hv.opcl
        have v3 := hv.cl
        go_wp2_with fail
        refine (first_any _).mono ?_
        rintro e w9 ⟨rfl, hb9⟩
        go_wp2_with fail
        go_ret
        exact ⟨rfl, hb3.trans (hb9.mono hb3.size)⟩
    · go_wp2_with fail
      refine (first_any _).mono ?_
      rintro e w9 ⟨rfl, hb9⟩
      go_wp2_with fail
      go_ret
      exact ⟨rfl, hb2.trans (hb9.mono hb2.size)⟩
  go_enter Try.func5, Try.ntmps5
  go_wp2_with fail
  generalize w.alloc (.cells #[.int .i64 s.p.op, .int .i64 s.p.cl, .slice s.aH s.p.hol.length s.cH, .int .i64 s.p.mach, .slice s.aS s.p.setup.length s.cS, .slice s.aJ s.p.jobs.length s.cJ] 25) = W at *
  refine (long_any s W (hS.on hw) hf.h1 hf.h2 hf.h3 hf.h4).mono ?_
  rintro e w2 ⟨rfl, hb⟩
  have hb2 := hw.trans (hb.mono hw.size)
  have hk2 := hk.below hb hk.lt
  obtain ⟨c0, c1, c2, c3, c4, c5⟩ := shcells hk2
  cases hl : longB s.p
  · go_wp2_with fail
    refine (refValid_any s w2 (hS.on hb2) hf.h1 hf.h2 hf.h3 hf.h4).mono ?_
    rintro e w3 ⟨rfl, hb⟩
    have hb3 := hb2.trans (hb.mono hb2.size)
    have hk3 := hk2.below hb hk2.lt
    clear c0 c1 c2 c3 c4 c5
    obtain ⟨c0, c1, c2, c3, c4, c5⟩ := shcells hk3
    cases hvB : validShop s.p
    · go_wp2_with fail
      refine (first_any _).mono ?_
      rintro e w9 ⟨rfl, hb9⟩
      go_wp2_with fail
      go_ret
      exact ⟨rfl, hb3.trans (hb9.mono hb3.size)⟩
    · have hv := valid_facts hvB
      have v1 := hv.op0
      have v2 := hv.opcl
      have v3 := hv.cl
      go_wp2_with fail
      refine (apiWorked_ok s t m _ (hS.on hb3) hvB (by omega) (by omega) (by omega)).mono ?_
      rintro e w4 ⟨rfl, hb⟩
      have hb4 := hb3.trans (hb.mono hb3.size)
      have hk4 := hk3.below hb hk3.lt
      clear c0 c1 c2 c3 c4 c5
      obtain ⟨c0, c1, c2, c3, c4, c5⟩ := shcells hk4
      go_wp2_with fail
      refine (refWorked_any s t m _ (hS.on hb4) hv (by omega) (by omega) (by omega)).mono ?_
      rintro e w5 ⟨rfl, hb⟩
      have hb5 := hb4.trans (hb.mono hb4.size)
      go_wp2_with fail
      refine (first_any _).mono ?_
      rintro e w9 ⟨rfl, hb9⟩
      go_wp2_with fail
      go_ret
      exact ⟨rfl, hb5.trans (hb9.mono hb5.size)⟩
  · go_wp2_with fail
    refine (first_any _).mono ?_
    rintro e w9 ⟨rfl, hb9⟩
    go_wp2_with fail
    go_ret
    exact ⟨rfl, hb2.trans (hb9.mono hb2.size)⟩
end Go.Proofs.Ytcpnfcnobnjhdaa
