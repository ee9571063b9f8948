/- The law ShopTimes: the walk. -/
import Derived.Test.YtcpnfcnobnjhdaaShopLaws1
import Derived.Test.YtcpnfcnobnjhdaaTimesP
namespace Go.Proofs.Ytcpnfcnobnjhdaa
open Go.RowKit

set_option maxRecDepth 200000 in
set_option maxHeartbeats 4000000 in
theorem times_walk (s : Sh) (A B C M : Int) (w : World) (hS : ShAt w w.heap.size s) (hf : Fits s.p) (A0 : 0 ≤ A) (A1 : A ≤ 65535) (B0 : 0 ≤ B) (B1 : B ≤ 65535) (C0 : 0 ≤ C) (C1 : C ≤ 65535) (M0 : 0 ≤ M) (M1 : M ≤ 65535) :
    Calls Try.prog 6 #[.agg #[.int .i64 s.p.op, .int .i64 s.p.cl, .slice s.aH s.p.hol.length s.cH, .int .i64 s.p.mach, .slice s.aS s.p.setup.length s.cS, .slice s.aJ s.p.jobs.length s.cJ], .agg #[.int .u16 A, .int .u16 B, .int .u16 C, .int .u16 M]] w fun e w' => e = .returned (.bool true) ∧ Below w.heap.size w w' := by
  have hk := (Blk.new w 25 #[.int .i64 s.p.op, .int .i64 s.p.cl, .slice s.aH s.p.hol.length s.cH, .int .i64 s.p.mach, .slice s.aS s.p.setup.length s.cS, .slice s.aJ s.p.jobs.length s.cJ]).alloc (.cells #[.int .u16 A, .int .u16 B, .int .u16 C, .int .u16 M] 35)
  have hT := Blk.new (w.alloc (.cells #[.int .i64 s.p.op, .int .i64 s.p.cl, .slice s.aH s.p.hol.length s.cH, .int .i64 s.p.mach, .slice s.aS s.p.setup.length s.cS, .slice s.aJ s.p.jobs.length s.cJ] 25)) 35 #[.int .u16 A, .int .u16 B, .int .u16 C, .int .u16 M]
  have e1 : (w.alloc (.cells #[.int .i64 s.p.op, .int .i64 s.p.cl, .slice s.aH s.p.hol.length s.cH, .int .i64 s.p.mach, .slice s.aS s.p.setup.length s.cS, .slice s.aJ s.p.jobs.length s.cJ] 25)).heap.size = w.heap.size + 1 := by simp
  rw [e1] at hT
  have hw := ((Below.refl w.heap.size w).alloc (Nat.le_refl _) (.cells #[.int .i64 s.p.op, .int .i64 s.p.cl, .slice s.aH s.p.hol.length s.cH, .int .i64 s.p.mach, .slice s.aS s.p.setup.length s.cS, .slice s.aJ s.p.jobs.length s.cJ] 25)).alloc (by simp) (.cells #[.int .u16 A, .int .u16 B, .int .u16 C, .int .u16 M] 35)
  go_enter Try.func6, Try.ntmps6
  go_wp2_with fail
  generalize (w.alloc (.cells #[.int .i64 s.p.op, .int .i64 s.p.cl, .slice s.aH s.p.hol.length s.cH, .int .i64 s.p.mach, .slice s.aS s.p.setup.length s.cS, .slice s.aJ s.p.jobs.length s.cJ] 25)).alloc (.cells #[.int .u16 A, .int .u16 B, .int .u16 C, .int .u16 M] 35) = W at *
  refine (long_any s W (hS.on hw) hf.h1 hf.h2 hf.h3 hf.h4).mono ?_
  rintro e w2 ⟨rfl, hb⟩
  have hb2 := hw.trans (hb.mono hw.size)
  have hk2 := hk.below hb hk.lt
  have hT2 := hT.below hb hT.lt
  clear hk hT hw
  obtain ⟨c0, c1, c2, c3, c4, c5⟩ := shcells hk2
  cases hl : longB s.p
  · go_wp2_with fail
    refine (refValid_any s w2 (hS.on hb2) hf.h1 hf.h2 hf.h3 hf.h4).mono ?_
    rintro e w3 ⟨rfl, hb⟩
    have hb3 := hb2.trans (hb.mono hb2.size)
    have hk3 := hk2.below hb hk2.lt
    have hT3 := hT2.below hb hT2.lt
    clear c0 c1 c2 c3 c4 c5 hk2 hT2
    obtain ⟨c0, c1, c2, c3, c4, c5⟩ := shcells hk3
    cases hvB : validShop s.p
    · go_wp2_with fail
      refine (first_any _).mono ?_
      rintro e w9 ⟨rfl, hb9⟩
      go_wp2_with fail
      go_ret
      exact ⟨rfl, hb3.trans (hb9.mono hb3.size)⟩
    · have hv := valid_facts hvB
      have v1 := hv.op0
      have v2 := hv.opcl
      have v3 := hv.cl
      have t0 := hT3.cell_ 0 rfl
      have t1 := hT3.cell_ 1 rfl
      have t2 := hT3.cell_ 2 rfl
      have t3 := hT3.cell_ 3 rfl
      have hrem0 := Int.emod_nonneg M (show s.p.cl - s.p.op ≠ 0 by omega)
      have hrem1 := Int.emod_lt_of_pos M (show 0 < s.p.cl - s.p.op by omega)
      have hW : ¬ (s.p.cl - s.p.op = 0) := by omega
      go_wp2_with fail
      generalize M % (s.p.cl - s.p.op) = K at *
      have n1 := next_ge hv A0 (m := 1 + K) (by omega)
      have n2 := next_mono hv A0 (u := A + B) (m := 1 + K) (by omega) (by omega)
      have n3 := after_ge hv A0 (m := M % 5000) (by omega)
      have n4 := after_bd hv A0 (m := M % 5000) (by omega) (by omega)
      have n5 := hide (after_worked hv A0 (m := M % 5000) (by omega))
      have o1 := oB_mono hv (t := A) (u := A + B) (by omega)
      have o2 := oB_mono hv (t := A + B) (u := A + B + C) (by omega)
      refine (apiNext_any s A (1 + K) _ (hS.on hb3) hvB).mono ?_
      rintro e w4 ⟨rfl, hb⟩
      rw [nextV_ok (by omega) (by omega) (by omega) (by omega)]
      have hb4 := hb3.trans (hb.mono hb3.size)
      have hk4 := hk3.below hb hk3.lt
      have hT4 := hT3.below hb hT3.lt
      clear c0 c1 c2 c3 c4 c5 t0 t1 t2 t3 hk3 hT3 hb
      obtain ⟨c0, c1, c2, c3, c4, c5⟩ := shcells hk4
      have t0 := hT4.cell_ 0 rfl
      have t1 := hT4.cell_ 1 rfl
      have t2 := hT4.cell_ 2 rfl
      have t3 := hT4.cell_ 3 rfl
      go_wp2_with fail
      refine (apiNext_any s (A + B) (1 + K) _ (hS.on hb4) hvB).mono ?_
      rintro e w5 ⟨rfl, hb⟩
      rw [nextV_ok (by omega) (by omega) (by omega) (by omega)]
      have hb5 := hb4.trans (hb.mono hb4.size)
      have hk5 := hk4.below hb hk4.lt
      have hT5 := hT4.below hb hT4.lt
      clear c0 c1 c2 c3 c4 c5 t0 t1 t2 t3 hk4 hT4 hb
      obtain ⟨c0, c1, c2, c3, c4, c5⟩ := shcells hk5
      have t0 := hT5.cell_ 0 rfl
      have t1 := hT5.cell_ 1 rfl
      have t2 := hT5.cell_ 2 rfl
      have t3 := hT5.cell_ 3 rfl
      go_wp2_with fail
      refine (apiAfter_any s A (M % 5000) _ (hS.on hb5) hvB).mono ?_
      rintro e w6 ⟨rfl, hb⟩
      rw [afterV_ok (by omega) (by omega) (by omega) (by omega)]
      have hb6 := hb5.trans (hb.mono hb5.size)
      have hk6 := hk5.below hb hk5.lt
      have hT6 := hT5.below hb hT5.lt
      clear c0 c1 c2 c3 c4 c5 t0 t1 t2 t3 hk5 hT5 hb
      obtain ⟨c0, c1, c2, c3, c4, c5⟩ := shcells hk6
      have t0 := hT6.cell_ 0 rfl
      have t1 := hT6.cell_ 1 rfl
      have t2 := hT6.cell_ 2 rfl
      have t3 := hT6.cell_ 3 rfl
      go_wp2_with fail
      refine (apiWorked_ok s A (afterF s.p A (M % 5000)) _ (hS.on hb6) hvB (by omega) (by omega) (by omega)).mono ?_
      rintro e w7 ⟨rfl, hb⟩
      rw [n5.out]
      have hb7 := hb6.trans (hb.mono hb6.size)
      have hk7 := hk6.below hb hk6.lt
      have hT7 := hT6.below hb hT6.lt
      clear c0 c1 c2 c3 c4 c5 t0 t1 t2 t3 hk6 hT6 hb
      obtain ⟨c0, c1, c2, c3, c4, c5⟩ := shcells hk7
      have t0 := hT7.cell_ 0 rfl
      have t1 := hT7.cell_ 1 rfl
      have t2 := hT7.cell_ 2 rfl
      have t3 := hT7.cell_ 3 rfl
      go_wp2_with fail
      refine (apiWorked_ok s A (A + B) _ (hS.on hb7) hvB (by omega) (by omega) (by omega)).mono ?_
      rintro e w8 ⟨rfl, hb⟩
      have hb8 := hb7.trans (hb.mono hb7.size)
      have hk8 := hk7.below hb hk7.lt
      have hT8 := hT7.below hb hT7.lt
      clear c0 c1 c2 c3 c4 c5 t0 t1 t2 t3 hk7 hT7 hb
      obtain ⟨c0, c1, c2, c3, c4, c5⟩ := shcells hk8
      have t0 := hT8.cell_ 0 rfl
      have t1 := hT8.cell_ 1 rfl
      have t2 := hT8.cell_ 2 rfl
      have t3 := hT8.cell_ 3 rfl
      go_wp2_with fail
      refine (apiWorked_ok s (A + B) (A + B + C) _ (hS.on hb8) hvB (by omega) (by omega) (by omega)).mono ?_
      rintro e w9 ⟨rfl, hb⟩
      have hb9 := hb8.trans (hb.mono hb8.size)
      have hk9 := hk8.below hb hk8.lt
      have hT9 := hT8.below hb hT8.lt
      clear c0 c1 c2 c3 c4 c5 t0 t1 t2 t3 hk8 hT8 hb
      obtain ⟨c0, c1, c2, c3, c4, c5⟩ := shcells hk9
      have t0 := hT9.cell_ 0 rfl
      have t1 := hT9.cell_ 1 rfl
      have t2 := hT9.cell_ 2 rfl
      have t3 := hT9.cell_ 3 rfl
      go_wp2_with fail
      have p1 := oB_pos hv A0
      have e5 : IntKind.i64.wrap (oB s.p (A + B) - oB s.p A + (oB s.p (A + B + C) - oB s.p (A + B))) = oB s.p (A + B + C) - oB s.p A := by rw [IntWalk.i64_in _ (by omega)]; omega
      refine (apiWorked_ok s A (A + B + C) _ (hS.on hb9) hvB (by omega) (by omega) (by omega)).mono ?_
      rintro e w10 ⟨rfl, hb⟩
      have hb10 := hb9.trans (hb.mono hb9.size)
      have hk10 := hk9.below hb hk9.lt
      have hT10 := hT9.below hb hT9.lt
      clear c0 c1 c2 c3 c4 c5 t0 t1 t2 t3 hk9 hT9 hb
      obtain ⟨c0, c1, c2, c3, c4, c5⟩ := shcells hk10
      have t0 := hT10.cell_ 0 rfl
      have t1 := hT10.cell_ 1 rfl
      have t2 := hT10.cell_ 2 rfl
      have t3 := hT10.cell_ 3 rfl
      go_wp2_with fail
      refine (first_any _).mono ?_
      rintro e w11 ⟨rfl, hb⟩
      go_wp2_with fail
      go_ret
      exact ⟨rfl, hb10.trans (hb.mono hb10.size)⟩
  · go_wp2_with fail
    refine (first_any _).mono ?_
    rintro e w9 ⟨rfl, hb9⟩
    go_wp2_with fail
    go_ret
    exact ⟨rfl, hb2.trans (hb9.mono hb2.size)⟩
end Go.Proofs.Ytcpnfcnobnjhdaa
