/- The law ShopHolidays: the walk. -/
import Derived.Test.YtcpnfcnobnjhdaaHolP
import Derived.Test.YtcpnfcnobnjhdaaChains
import Derived.Deep.RegionLaw
namespace Go.Proofs.Ytcpnfcnobnjhdaa
open Go.RowKit
theorem et_int : ElemT Try.prog 22 3 1 := elemT_mk Try.underlying22 (z := .int .i64 0) (bytes := 8) (by kernel_rfl) rfl (by omega) (by omega)
theorem apiChain_ok (s : Sh) (n : Nat) (l : List Step) (w : World) (hS : ShAt w w.heap.size s) (hvB : validShop s.p = true) (hjl : s.p.jobs[n]? = some l) :
    Calls Try.prog 27 #[.agg #[.int .i64 s.p.op, .int .i64 s.p.cl, .slice s.aH s.p.hol.length s.cH, .int .i64 s.p.mach, .slice s.aS s.p.setup.length s.cS, .slice s.aJ s.p.jobs.length s.cJ], .int .i64 n] w fun e w' => e = .returned (.tuple #[.int .i64 (chainF s.p l), .int .i64 0]) ∧ Below w.heap.size w w' := by
  have h1 := apiChain_any s n w hS hvB
  have hn : n < s.p.jobs.length := (List.getElem?_eq_some_iff.1 hjl).1
  rw [chainV_ok (inB_iff.2 ⟨by omega, by omega⟩)] at h1
  rw [show ((n : Int).toNat) = n by omega, jobF_at hjl] at h1
  exact h1
theorem apiLoad_ok (s : Sh) (m : Int) (w : World) (hS : ShAt w w.heap.size s) (hvB : validShop s.p = true) (h0 : 0 ≤ m) (h1 : m < s.p.mach) :
    Calls Try.prog 28 #[.agg #[.int .i64 s.p.op, .int .i64 s.p.cl, .slice s.aH s.p.hol.length s.cH, .int .i64 s.p.mach, .slice s.aS s.p.setup.length s.cS, .slice s.aJ s.p.jobs.length s.cJ], .int .i64 m] w fun e w' => e = .returned (.tuple #[.int .i64 (loadF s.p m), .int .i64 0]) ∧ Below w.heap.size w w' := by
  have h2 := apiLoad_any s m w hS hvB
  rw [loadV_ok (inB_iff.2 ⟨by omega, by omega⟩)] at h2
  exact h2
set_option maxRecDepth 200000 in
set_option maxHeartbeats 4000000 in
theorem holidays_walk (s : Sh) (D T M J K : Int) (w : World) (hS : ShAt w w.heap.size s) (hf : Fits s.p) (D0 : 0 ≤ D) (D1 : D ≤ 65535) (T0 : 0 ≤ T) (T1 : T ≤ 65535) (M0 : 0 ≤ M) (M1 : M ≤ 65535) (J0 : 0 ≤ J) (J1 : J ≤ 255) (K0 : 0 ≤ K) (K1 : K ≤ 255) :
    Calls Try.prog 7 #[.agg #[.int .i64 s.p.op, .int .i64 s.p.cl, .slice s.aH s.p.hol.length s.cH, .int .i64 s.p.mach, .slice s.aS s.p.setup.length s.cS, .slice s.aJ s.p.jobs.length s.cJ], .agg #[.int .u16 D, .int .u16 T, .int .u16 M, .int .u8 J, .int .u8 K]] w fun e w' => e = .returned (.bool true) ∧ Below w.heap.size w w' := by
  obtain ⟨p, aH, cH, aS, cS, aJ, cJ⟩ := s
  dsimp only at *
  have hk := Blk.new w 25 #[.int .i64 p.op, .int .i64 p.cl, .slice aH p.hol.length cH, .int .i64 p.mach, .slice aS p.setup.length cS, .slice aJ p.jobs.length cJ]
  have hB := (Below.refl w.heap.size w).alloc (Nat.le_refl _) (.cells #[.int .i64 p.op, .int .i64 p.cl, .slice aH p.hol.length cH, .int .i64 p.mach, .slice aS p.setup.length cS, .slice aJ p.jobs.length cJ] 25)
  have hsz_w : (w.alloc (.cells #[.int .i64 p.op, .int .i64 p.cl, .slice aH p.hol.length cH, .int .i64 p.mach, .slice aS p.setup.length cS, .slice aJ p.jobs.length cJ] 25)).heap.size = w.heap.size + 1 := by simp
  go_enter Try.func7, Try.ntmps7
  go_wp2_with fail
  generalize w.alloc (.cells #[.int .i64 p.op, .int .i64 p.cl, .slice aH p.hol.length cH, .int .i64 p.mach, .slice aS p.setup.length cS, .slice aJ p.jobs.length cJ] 25) = W at *
  go_wp2_with fail
  have hR := Blk.new W 38 #[.int .u16 D, .int .u16 T, .int .u16 M, .int .u8 J, .int .u8 K]
  replace hk := hk.alloc (.cells #[.int .u16 D, .int .u16 T, .int .u16 M, .int .u8 J, .int .u8 K] 38)
  rw [hsz_w] at hR
  replace hB := hB.alloc hB.size (.cells #[.int .u16 D, .int .u16 T, .int .u16 M, .int .u8 J, .int .u8 K] 38)
  generalize W.alloc (.cells #[.int .u16 D, .int .u16 T, .int .u16 M, .int .u8 J, .int .u8 K] 38) = W at *
  have c0 := hk.cell_ 0 rfl
  have c1 := hk.cell_ 1 rfl
  have c2 := hk.cell_ 2 rfl
  have c3 := hk.cell_ 3 rfl
  have c4 := hk.cell_ 4 rfl
  have c5 := hk.cell_ 5 rfl
  have r0 := hR.cell_ 0 rfl
  have r1 := hR.cell_ 1 rfl
  have r2 := hR.cell_ 2 rfl
  have r3 := hR.cell_ 3 rfl
  have r4 := hR.cell_ 4 rfl
  clear hsz_w
  go_wp2_with fail
  refine (long_any ⟨p, aH, cH, aS, cS, aJ, cJ⟩ _ (hS.on hB) hf.h1 hf.h2 hf.h3 hf.h4).mono ?_
  rintro e W ⟨rfl, hb⟩
  clear c0 c1 c2 c3 c4 c5 r0 r1 r2 r3 r4
  replace hk := hk.below hb hk.lt
  replace hR := hR.below hb hR.lt
  replace hB := hB.trans (hb.mono hB.size)
  clear hb
  have c0 := hk.cell_ 0 rfl
  have c1 := hk.cell_ 1 rfl
  have c2 := hk.cell_ 2 rfl
  have c3 := hk.cell_ 3 rfl
  have c4 := hk.cell_ 4 rfl
  have c5 := hk.cell_ 5 rfl
  have r0 := hR.cell_ 0 rfl
  have r1 := hR.cell_ 1 rfl
  have r2 := hR.cell_ 2 rfl
  have r3 := hR.cell_ 3 rfl
  have r4 := hR.cell_ 4 rfl
  cases hl : longB p
  case true =>
    go_wp2_with fail
    refine (first_any _).mono ?_
    rintro e W ⟨rfl, hb⟩
    clear c0 c1 c2 c3 c4 c5 r0 r1 r2 r3 r4
    replace hk := hk.below hb hk.lt
    replace hR := hR.below hb hR.lt
    replace hB := hB.trans (hb.mono hB.size)
    clear hb
    have c0 := hk.cell_ 0 rfl
    have c1 := hk.cell_ 1 rfl
    have c2 := hk.cell_ 2 rfl
    have c3 := hk.cell_ 3 rfl
    have c4 := hk.cell_ 4 rfl
    have c5 := hk.cell_ 5 rfl
    have r0 := hR.cell_ 0 rfl
    have r1 := hR.cell_ 1 rfl
    have r2 := hR.cell_ 2 rfl
    have r3 := hR.cell_ 3 rfl
    have r4 := hR.cell_ 4 rfl
    go_wp2_with fail
    go_ret
    exact ⟨rfl, hB⟩
  go_wp2_with fail
  refine (refValid_any ⟨p, aH, cH, aS, cS, aJ, cJ⟩ _ (hS.on hB) hf.h1 hf.h2 hf.h3 hf.h4).mono ?_
  rintro e W ⟨rfl, hb⟩
  clear c0 c1 c2 c3 c4 c5 r0 r1 r2 r3 r4
  replace hk := hk.below hb hk.lt
  replace hR := hR.below hb hR.lt
  replace hB := hB.trans (hb.mono hB.size)
  clear hb
  have c0 := hk.cell_ 0 rfl
  have c1 := hk.cell_ 1 rfl
  have c2 := hk.cell_ 2 rfl
  have c3 := hk.cell_ 3 rfl
  have c4 := hk.cell_ 4 rfl
  have c5 := hk.cell_ 5 rfl
  have r0 := hR.cell_ 0 rfl
  have r1 := hR.cell_ 1 rfl
  have r2 := hR.cell_ 2 rfl
  have r3 := hR.cell_ 3 rfl
  have r4 := hR.cell_ 4 rfl
  cases hvB : validShop p
  case false =>
    go_wp2_with fail
    refine (first_any _).mono ?_
    rintro e W ⟨rfl, hb⟩
    clear c0 c1 c2 c3 c4 c5 r0 r1 r2 r3 r4
    replace hk := hk.below hb hk.lt
    replace hR := hR.below hb hR.lt
    replace hB := hB.trans (hb.mono hB.size)
    clear hb
    have c0 := hk.cell_ 0 rfl
    have c1 := hk.cell_ 1 rfl
    have c2 := hk.cell_ 2 rfl
    have c3 := hk.cell_ 3 rfl
    have c4 := hk.cell_ 4 rfl
    have c5 := hk.cell_ 5 rfl
    have r0 := hR.cell_ 0 rfl
    have r1 := hR.cell_ 1 rfl
    have r2 := hR.cell_ 2 rfl
    have r3 := hR.cell_ 3 rfl
    have r4 := hR.cell_ 4 rfl
    go_wp2_with fail
    go_ret
    exact ⟨rfl, hB⟩
  have hv := valid_facts hvB
  have v1 := hv.op0
  have v2 := hv.opcl
  have v3 := hv.cl
  have v4 := hv.holn
  clear c0 c1 c2 c3 c4 c5 r0 r1 r2 r3 r4
  have hRlt := hR.lt
  have c0 := hk.cell_ 0 rfl
  have c1 := hk.cell_ 1 rfl
  have c2 := hk.cell_ 2 rfl
  have c3 := hk.cell_ 3 rfl
  have c4 := hk.cell_ 4 rfl
  have c5 := hk.cell_ 5 rfl
  have r0 := hR.cell_ 0 rfl
  have r1 := hR.cell_ 1 rfl
  have r2 := hR.cell_ 2 rfl
  have r3 := hR.cell_ 3 rfl
  have r4 := hR.cell_ 4 rfl
  have hdb : 0 ≤ D % 200 ∧ D % 200 < 200 := by omega
  go_wp2_with fail
  clear c0 c1 c2 c3 c4 c5 r0 r1 r2 r3 r4
  have hM := Blk.new W 25 #[.int .i64 p.op, .int .i64 p.cl, .slice none 0 0, .int .i64 p.mach, .slice aS p.setup.length cS, .slice aJ p.jobs.length cJ]
  replace hk := hk.alloc (.cells #[.int .i64 p.op, .int .i64 p.cl, .slice none 0 0, .int .i64 p.mach, .slice aS p.setup.length cS, .slice aJ p.jobs.length cJ] 25)
  replace hR := hR.alloc (.cells #[.int .i64 p.op, .int .i64 p.cl, .slice none 0 0, .int .i64 p.mach, .slice aS p.setup.length cS, .slice aJ p.jobs.length cJ] 25)
  have hsz_bm : (W.alloc (.cells #[.int .i64 p.op, .int .i64 p.cl, .slice none 0 0, .int .i64 p.mach, .slice aS p.setup.length cS, .slice aJ p.jobs.length cJ] 25)).heap.size = W.heap.size + 1 := by simp
  have bmge := hB.size
  replace hB := hB.alloc hB.size (.cells #[.int .i64 p.op, .int .i64 p.cl, .slice none 0 0, .int .i64 p.mach, .slice aS p.setup.length cS, .slice aJ p.jobs.length cJ] 25)
  generalize hbm : W.heap.size = bm at *
  generalize W.alloc (.cells #[.int .i64 p.op, .int .i64 p.cl, .slice none 0 0, .int .i64 p.mach, .slice aS p.setup.length cS, .slice aJ p.jobs.length cJ] 25) = W at *
  clear hbm
  have c0 := hk.cell_ 0 rfl
  have c1 := hk.cell_ 1 rfl
  have c2 := hk.cell_ 2 rfl
  have c3 := hk.cell_ 3 rfl
  have c4 := hk.cell_ 4 rfl
  have c5 := hk.cell_ 5 rfl
  have r0 := hR.cell_ 0 rfl
  have r1 := hR.cell_ 1 rfl
  have r2 := hR.cell_ 2 rfl
  have r3 := hR.cell_ 3 rfl
  have r4 := hR.cell_ 4 rfl
  have m0 := hM.cell_ 0 rfl
  have m1 := hM.cell_ 1 rfl
  have m2 := hM.cell_ 2 rfl
  have m3 := hM.cell_ 3 rfl
  have m4 := hM.cell_ 4 rfl
  have m5 := hM.cell_ 5 rfl
  generalize D % 200 = day at *
  clear c0 c1 c2 c3 c4 c5 r0 r1 r2 r3 r4 m0 m1 m2 m3 m4 m5
  have hO : Own W (bm + 1) 3 1 intEnc (.slice none 0 0) [] := Own.nil_
  have hz : bm + 1 ≤ W.heap.size := hM.lt
  go_loopw [7, 8] (fun x y W => ∃ (b : Bool) (k : Nat) (es : List Int) (v : Value), x = .bool b ∧ y = .int .i64 k ∧ k ≤ p.hol.length ∧ es.length ≤ 2 * k ∧ es ++ insF day b (p.hol.drop k) = insF day false p.hol ∧ Blk W w.heap.size 25 #[.int .i64 p.op, .int .i64 p.cl, .slice aH p.hol.length cH, .int .i64 p.mach, .slice aS p.setup.length cS, .slice aJ p.jobs.length cJ] ∧ Blk W (w.heap.size + 1) 38 #[.int .u16 D, .int .u16 T, .int .u16 M, .int .u8 J, .int .u8 K] ∧ Blk W bm 25 #[.int .i64 p.op, .int .i64 p.cl, v, .int .i64 p.mach, .slice aS p.setup.length cS, .slice aJ p.jobs.length cJ] ∧ Own W (bm + 1) 3 1 intEnc v es ∧ bm + 1 ≤ W.heap.size ∧ Below w.heap.size w W) (fun x y _ => p.hol.length - (intOf y).toNat)
  case atStart => exact ⟨false, 0, [], _, rfl, rfl, Nat.zero_le _, Nat.zero_le _, rfl, hk, hR, hM, hO, hz, hB⟩
  case round =>
    clear hk hR hM hO hz hB
    obtain ⟨W, rfl⟩ : ∃ W : World, W = wr := ⟨_, rfl⟩
    obtain ⟨b, k, es, v, rfl, rfl, hkl, hel, hes, hk, hR, hM, hO, hz, hB⟩ := hrel
    by_cases hlt : k < p.hol.length
    · obtain ⟨x, b3, off3, hx, h4, hb3', hcx0⟩ := ints_at' hS.hol hlt
      dsimp only at h4
      subst h4
      cases b
      case true =>
        have HES := hide (show (es ++ [x]) ++ insF day true (p.hol.drop (k + 1)) = insF day false p.hol by rw [← hes, insF_true hx]; simp)
        clear hes hx
        have c0 := hk.cell_ 0 rfl
        have c1 := hk.cell_ 1 rfl
        have c2 := hk.cell_ 2 rfl
        have c3 := hk.cell_ 3 rfl
        have c4 := hk.cell_ 4 rfl
        have c5 := hk.cell_ 5 rfl
        have r0 := hR.cell_ 0 rfl
        have r1 := hR.cell_ 1 rfl
        have r2 := hR.cell_ 2 rfl
        have r3 := hR.cell_ 3 rfl
        have r4 := hR.cell_ 4 rfl
        have m0 := hM.cell_ 0 rfl
        have m1 := hM.cell_ 1 rfl
        have m2 := hM.cell_ 2 rfl
        have m3 := hM.cell_ 3 rfl
        have m4 := hM.cell_ 4 rfl
        have m5 := hM.cell_ 5 rfl
        go_wp2_with fail
        have f2 := hM.frozen 2
        have hcx := (hB.cell (p := ⟨b3, off3 + k, none⟩) hb3').trans hcx0
        have m2a := (hM.alloc (.cells #[.int .i64 x] 3)).cell_ 2 rfl
        have c2a := (hk.alloc (.cells #[.int .i64 x] 3)).cell_ 2 rfl
        go_region_law (refine step_app _ _ rfl rfl et_int (hO.alloc _).drew rfl rfl (y := x) (Blk.new W _ _) rfl rfl rfl (by omega) (by simp; omega) ?_; intro v' W' hO' hb hgt; obtain ⟨A9, c9, rfl, _⟩ := hO'.form (fun _ => rfl); replace hk := ((hk.alloc (.cells #[.int .i64 x] 3)).drew).below hb (by omega); replace hR := ((hR.alloc (.cells #[.int .i64 x] 3)).drew).below hb (by omega); replace hM := ((hM.alloc (.cells #[.int .i64 x] 3)).drew).below hb (by omega); replace hB := ((hB.alloc hB.size (.cells #[.int .i64 x] 3)).drew).trans (hb.mono (by omega)); have m2 := hM.cell_ 2 rfl; have f2 := hM.frozen 2)
        all_goals
          clear c0 c1 c2 c3 c4 c5 r0 r1 r2 r3 r4 m0 m1 m2 m3 m4 m5 m2a c2a f2 hcx
          go_wp2_with fail
          replace hk := hk.far (p := ⟨bm, 2, none⟩) (by simp; omega) (.slice A9 (es.length + 1) c9)
          replace hR := hR.far (p := ⟨bm, 2, none⟩) (by simp; omega) (.slice A9 (es.length + 1) c9)
          replace hM := hM.set_ 2 (.slice A9 (es.length + 1) c9)
          replace hB := hB.setCell (p := ⟨bm, 2, none⟩) (by simp; omega) (.slice A9 (es.length + 1) c9)
          simp only [List.length_append, List.length_cons, List.length_nil, Nat.zero_add] at hO'
          have hO2 := hO'.setBelow (p := ⟨bm, 2, none⟩) (by simp) (.slice A9 (es.length + 1) c9)
          go_roundw
          case rel => exact ⟨true, k + 1, es ++ [x], _, rfl, by go_num, by omega, by simp; omega, HES.out, hk, hR, hM, hO2, by simp; omega, hB⟩
          case measure => simp [intOf]; omega
      case false =>
        rcases Int.lt_trichotomy x day with hxd | rfl | hxd
        · have HES := hide (show (es ++ [x]) ++ insF day false (p.hol.drop (k + 1)) = insF day false p.hol by rw [← hes, insF_lt hx hxd]; simp)
          clear hes hx
          have c0 := hk.cell_ 0 rfl
          have c1 := hk.cell_ 1 rfl
          have c2 := hk.cell_ 2 rfl
          have c3 := hk.cell_ 3 rfl
          have c4 := hk.cell_ 4 rfl
          have c5 := hk.cell_ 5 rfl
          have r0 := hR.cell_ 0 rfl
          have r1 := hR.cell_ 1 rfl
          have r2 := hR.cell_ 2 rfl
          have r3 := hR.cell_ 3 rfl
          have r4 := hR.cell_ 4 rfl
          have m0 := hM.cell_ 0 rfl
          have m1 := hM.cell_ 1 rfl
          have m2 := hM.cell_ 2 rfl
          have m3 := hM.cell_ 3 rfl
          have m4 := hM.cell_ 4 rfl
          have m5 := hM.cell_ 5 rfl
          have hcx := (hB.cell (p := ⟨b3, off3 + k, none⟩) hb3').trans hcx0
          go_wp2_with fail
          clear hcx
          have f2 := hM.frozen 2
          have hcx := (hB.cell (p := ⟨b3, off3 + k, none⟩) hb3').trans hcx0
          have m2a := (hM.alloc (.cells #[.int .i64 x] 3)).cell_ 2 rfl
          have c2a := (hk.alloc (.cells #[.int .i64 x] 3)).cell_ 2 rfl
          go_region_law (refine step_app _ _ rfl rfl et_int (hO.alloc _).drew rfl rfl (y := x) (Blk.new W _ _) rfl rfl rfl (by omega) (by simp; omega) ?_; intro v' W' hO' hb hgt; obtain ⟨A9, c9, rfl, _⟩ := hO'.form (fun _ => rfl); replace hk := ((hk.alloc (.cells #[.int .i64 x] 3)).drew).below hb (by omega); replace hR := ((hR.alloc (.cells #[.int .i64 x] 3)).drew).below hb (by omega); replace hM := ((hM.alloc (.cells #[.int .i64 x] 3)).drew).below hb (by omega); replace hB := ((hB.alloc hB.size (.cells #[.int .i64 x] 3)).drew).trans (hb.mono (by omega)); have m2 := hM.cell_ 2 rfl; have f2 := hM.frozen 2)
          all_goals
            clear c0 c1 c2 c3 c4 c5 r0 r1 r2 r3 r4 m0 m1 m2 m3 m4 m5 m2a c2a f2 hcx
            go_wp2_with fail
            replace hk := hk.far (p := ⟨bm, 2, none⟩) (by simp; omega) (.slice A9 (es.length + 1) c9)
            replace hR := hR.far (p := ⟨bm, 2, none⟩) (by simp; omega) (.slice A9 (es.length + 1) c9)
            replace hM := hM.set_ 2 (.slice A9 (es.length + 1) c9)
            replace hB := hB.setCell (p := ⟨bm, 2, none⟩) (by simp; omega) (.slice A9 (es.length + 1) c9)
            simp only [List.length_append, List.length_cons, List.length_nil, Nat.zero_add] at hO'
            have hO2 := hO'.setBelow (p := ⟨bm, 2, none⟩) (by simp) (.slice A9 (es.length + 1) c9)
            go_roundw
            case rel => exact ⟨false, k + 1, es ++ [x], _, rfl, by go_num, by omega, by simp; omega, HES.out, hk, hR, hM, hO2, by simp; omega, hB⟩
            case measure => simp [intOf]; omega
        · have HES := hide (show (es ++ [x]) ++ insF x true (p.hol.drop (k + 1)) = insF x false p.hol by rw [← hes, insF_eq hx]; simp)
          clear hes hx
          have c0 := hk.cell_ 0 rfl
          have c1 := hk.cell_ 1 rfl
          have c2 := hk.cell_ 2 rfl
          have c3 := hk.cell_ 3 rfl
          have c4 := hk.cell_ 4 rfl
          have c5 := hk.cell_ 5 rfl
          have r0 := hR.cell_ 0 rfl
          have r1 := hR.cell_ 1 rfl
          have r2 := hR.cell_ 2 rfl
          have r3 := hR.cell_ 3 rfl
          have r4 := hR.cell_ 4 rfl
          have m0 := hM.cell_ 0 rfl
          have m1 := hM.cell_ 1 rfl
          have m2 := hM.cell_ 2 rfl
          have m3 := hM.cell_ 3 rfl
          have m4 := hM.cell_ 4 rfl
          have m5 := hM.cell_ 5 rfl
          have hcx := (hB.cell (p := ⟨b3, off3 + k, none⟩) hb3').trans hcx0
          go_wp2_with fail
          clear hcx
          have f2 := hM.frozen 2
          have hcx := (hB.cell (p := ⟨b3, off3 + k, none⟩) hb3').trans hcx0
          have m2a := (hM.alloc (.cells #[.int .i64 x] 3)).cell_ 2 rfl
          have c2a := (hk.alloc (.cells #[.int .i64 x] 3)).cell_ 2 rfl
          go_region_law (refine step_app _ _ rfl rfl et_int (hO.alloc _).drew rfl rfl (y := x) (Blk.new W _ _) rfl rfl rfl (by omega) (by simp; omega) ?_; intro v' W' hO' hb hgt; obtain ⟨A9, c9, rfl, _⟩ := hO'.form (fun _ => rfl); replace hk := ((hk.alloc (.cells #[.int .i64 x] 3)).drew).below hb (by omega); replace hR := ((hR.alloc (.cells #[.int .i64 x] 3)).drew).below hb (by omega); replace hM := ((hM.alloc (.cells #[.int .i64 x] 3)).drew).below hb (by omega); replace hB := ((hB.alloc hB.size (.cells #[.int .i64 x] 3)).drew).trans (hb.mono (by omega)); have m2 := hM.cell_ 2 rfl; have f2 := hM.frozen 2)
          all_goals
            clear c0 c1 c2 c3 c4 c5 r0 r1 r2 r3 r4 m0 m1 m2 m3 m4 m5 m2a c2a f2 hcx
            go_wp2_with fail
            replace hk := hk.far (p := ⟨bm, 2, none⟩) (by simp; omega) (.slice A9 (es.length + 1) c9)
            replace hR := hR.far (p := ⟨bm, 2, none⟩) (by simp; omega) (.slice A9 (es.length + 1) c9)
            replace hM := hM.set_ 2 (.slice A9 (es.length + 1) c9)
            replace hB := hB.setCell (p := ⟨bm, 2, none⟩) (by simp; omega) (.slice A9 (es.length + 1) c9)
            simp only [List.length_append, List.length_cons, List.length_nil, Nat.zero_add] at hO'
            have hO2 := hO'.setBelow (p := ⟨bm, 2, none⟩) (by simp) (.slice A9 (es.length + 1) c9)
            go_roundw
            case rel => exact ⟨true, k + 1, es ++ [x], _, rfl, by go_num, by omega, by simp; omega, HES.out, hk, hR, hM, hO2, by simp; omega, hB⟩
            case measure => simp [intOf]; omega
        · have HES := hide (show ((es ++ [day]) ++ [x]) ++ insF day true (p.hol.drop (k + 1)) = insF day false p.hol by rw [← hes, insF_gt hx hxd]; simp)
          clear hes hx
          have c0 := hk.cell_ 0 rfl
          have c1 := hk.cell_ 1 rfl
          have c2 := hk.cell_ 2 rfl
          have c3 := hk.cell_ 3 rfl
          have c4 := hk.cell_ 4 rfl
          have c5 := hk.cell_ 5 rfl
          have r0 := hR.cell_ 0 rfl
          have r1 := hR.cell_ 1 rfl
          have r2 := hR.cell_ 2 rfl
          have r3 := hR.cell_ 3 rfl
          have r4 := hR.cell_ 4 rfl
          have m0 := hM.cell_ 0 rfl
          have m1 := hM.cell_ 1 rfl
          have m2 := hM.cell_ 2 rfl
          have m3 := hM.cell_ 3 rfl
          have m4 := hM.cell_ 4 rfl
          have m5 := hM.cell_ 5 rfl
          have hcx := (hB.cell (p := ⟨b3, off3 + k, none⟩) hb3').trans hcx0
          go_wp2_with (at_builtin; refine wpList_app _ _ rfl rfl et_int hO rfl rfl (y := day) rfl rfl rfl (by omega) (by omega) ?_; intro v' W' hO' hb hgt; obtain ⟨A8, c8, rfl, _⟩ := hO'.form (fun _ => rfl); clear c0 c1 c2 c3 c4 c5 r0 r1 r2 r3 r4 m0 m1 m2 m3 m4 m5 hcx; replace hk := hk.below hb (by omega); replace hR := hR.below hb (by omega); replace hM := hM.below hb (by omega); replace hB := hB.trans (hb.mono (by omega)); have m2 := hM.cell_ 2 rfl; have f2 := hM.frozen 2)
          replace hk := hk.far (p := ⟨bm, 2, none⟩) (by simp; omega) (.slice A8 (es.length + 1) c8)
          replace hR := hR.far (p := ⟨bm, 2, none⟩) (by simp; omega) (.slice A8 (es.length + 1) c8)
          replace hM := hM.set_ 2 (.slice A8 (es.length + 1) c8)
          replace hB := hB.setCell (p := ⟨bm, 2, none⟩) (by simp; omega) (.slice A8 (es.length + 1) c8)
          simp only [List.length_append, List.length_cons, List.length_nil, Nat.zero_add] at hO'
          have hO2 := hO'.setBelow (p := ⟨bm, 2, none⟩) (by simp) (.slice A8 (es.length + 1) c8)
          generalize W'.setCell ⟨bm, 2, none⟩ (.slice A8 (es.length + 1) c8) = W at *
          replace hz : bm + 1 ≤ W.heap.size := hM.lt
          have hel2 : (es ++ [day]).length ≤ 2 * k + 1 := by simp; omega
          have hlen : (es ++ [day]).length = es.length + 1 := by simp
          have hO : Own W (bm + 1) 3 1 intEnc (.slice A8 (es.length + 1) c8) (es ++ [day]) := hO2
          clear hO2 hO' hel m2 f2
          rw [← hlen] at hO hM ⊢
          generalize es ++ [day] = es at *
          clear hlen
          have c0 := hk.cell_ 0 rfl
          have c1 := hk.cell_ 1 rfl
          have c2 := hk.cell_ 2 rfl
          have c3 := hk.cell_ 3 rfl
          have c4 := hk.cell_ 4 rfl
          have c5 := hk.cell_ 5 rfl
          have r0 := hR.cell_ 0 rfl
          have r1 := hR.cell_ 1 rfl
          have r2 := hR.cell_ 2 rfl
          have r3 := hR.cell_ 3 rfl
          have r4 := hR.cell_ 4 rfl
          have m0 := hM.cell_ 0 rfl
          have m1 := hM.cell_ 1 rfl
          have m2 := hM.cell_ 2 rfl
          have m3 := hM.cell_ 3 rfl
          have m4 := hM.cell_ 4 rfl
          have m5 := hM.cell_ 5 rfl
          have f2 := hM.frozen 2
          have hcx := (hB.cell (p := ⟨b3, off3 + k, none⟩) hb3').trans hcx0
          have m2a := (hM.alloc (.cells #[.int .i64 x] 3)).cell_ 2 rfl
          have c2a := (hk.alloc (.cells #[.int .i64 x] 3)).cell_ 2 rfl
          go_region_law (refine step_app _ _ rfl rfl et_int (hO.alloc _).drew rfl rfl (y := x) (Blk.new W _ _) rfl rfl rfl (by omega) (by simp; omega) ?_; intro v' W' hO' hb hgt; obtain ⟨A9, c9, rfl, _⟩ := hO'.form (fun _ => rfl); replace hk := ((hk.alloc (.cells #[.int .i64 x] 3)).drew).below hb (by omega); replace hR := ((hR.alloc (.cells #[.int .i64 x] 3)).drew).below hb (by omega); replace hM := ((hM.alloc (.cells #[.int .i64 x] 3)).drew).below hb (by omega); replace hB := ((hB.alloc hB.size (.cells #[.int .i64 x] 3)).drew).trans (hb.mono (by omega)); have m2 := hM.cell_ 2 rfl; have f2 := hM.frozen 2)
          all_goals
            clear c0 c1 c2 c3 c4 c5 r0 r1 r2 r3 r4 m0 m1 m2 m3 m4 m5 m2a c2a f2 hcx
            go_wp2_with fail
            replace hk := hk.far (p := ⟨bm, 2, none⟩) (by simp; omega) (.slice A9 (es.length + 1) c9)
            replace hR := hR.far (p := ⟨bm, 2, none⟩) (by simp; omega) (.slice A9 (es.length + 1) c9)
            replace hM := hM.set_ 2 (.slice A9 (es.length + 1) c9)
            replace hB := hB.setCell (p := ⟨bm, 2, none⟩) (by simp; omega) (.slice A9 (es.length + 1) c9)
            simp only [List.length_append, List.length_cons, List.length_nil, Nat.zero_add] at hO'
            have hO2 := hO'.setBelow (p := ⟨bm, 2, none⟩) (by simp) (.slice A9 (es.length + 1) c9)
            go_roundw
            case rel => exact ⟨true, k + 1, es ++ [x], _, rfl, by go_num, by omega, by simp; omega, HES.out, hk, hR, hM, hO2, by simp; omega, hB⟩
            case measure => simp [intOf]; omega
    · obtain rfl : k = p.hol.length := by omega
      rw [nomore] at hes
      cases b
      case true =>
        have HES := hide (show es = insF day false p.hol by rw [← hes]; simp [insF])
        clear hes
        have c0 := hk.cell_ 0 rfl
        have c1 := hk.cell_ 1 rfl
        have c2 := hk.cell_ 2 rfl
        have c3 := hk.cell_ 3 rfl
        have c4 := hk.cell_ 4 rfl
        have c5 := hk.cell_ 5 rfl
        have r0 := hR.cell_ 0 rfl
        have r1 := hR.cell_ 1 rfl
        have r2 := hR.cell_ 2 rfl
        have r3 := hR.cell_ 3 rfl
        have r4 := hR.cell_ 4 rfl
        have m0 := hM.cell_ 0 rfl
        have m1 := hM.cell_ 1 rfl
        have m2 := hM.cell_ 2 rfl
        have m3 := hM.cell_ 3 rfl
        have m4 := hM.cell_ 4 rfl
        have m5 := hM.cell_ 5 rfl
        go_wp2_with fail
        have hel2 : es.length ≤ 2 * p.hol.length + 1 := by omega
        obtain ⟨A9, c9, rfl, hSl⟩ := hO.form (fun _ => rfl)
        have hmore : More p { p with hol := es } := by rw [HES.out]; exact insF_more p day
        clear HES
        have hS2 : ShAt W W.heap.size ⟨{ p with hol := es }, A9, c9, aS, cS, aJ, cJ⟩ := ⟨hSl, (hS.on hB).setup, (hS.on hB).jobs⟩
        clear hO hSl
        have hf2 : Fits { p with hol := es } := ⟨by show es.length ≤ _; omega, hf.h2, hf.h3, hf.h4⟩
        refine (refValid_any ⟨{ p with hol := es }, A9, c9, aS, cS, aJ, cJ⟩ _ hS2 hf2.h1 hf2.h2 hf2.h3 hf2.h4).mono ?_
        rintro e W ⟨rfl, hb⟩
        clear c0 c1 c2 c3 c4 c5 r0 r1 r2 r3 r4 m0 m1 m2 m3 m4 m5
        replace hk := hk.below hb hk.lt
        replace hR := hR.below hb hR.lt
        replace hM := hM.below hb hM.lt
        replace hS2 := hS2.on hb
        replace hB := hB.trans (hb.mono hB.size)
        clear hb
        have c0 := hk.cell_ 0 rfl
        have c1 := hk.cell_ 1 rfl
        have c2 := hk.cell_ 2 rfl
        have c3 := hk.cell_ 3 rfl
        have c4 := hk.cell_ 4 rfl
        have c5 := hk.cell_ 5 rfl
        have r0 := hR.cell_ 0 rfl
        have r1 := hR.cell_ 1 rfl
        have r2 := hR.cell_ 2 rfl
        have r3 := hR.cell_ 3 rfl
        have r4 := hR.cell_ 4 rfl
        have m0 := hM.cell_ 0 rfl
        have m1 := hM.cell_ 1 rfl
        have m2 := hM.cell_ 2 rfl
        have m3 := hM.cell_ 3 rfl
        have m4 := hM.cell_ 4 rfl
        have m5 := hM.cell_ 5 rfl
        cases hvB2 : validShop { p with hol := es }
        case false =>
          go_wp2_with fail
          refine (first_any _).mono ?_
          rintro e W ⟨rfl, hb⟩
          clear c0 c1 c2 c3 c4 c5 r0 r1 r2 r3 r4 m0 m1 m2 m3 m4 m5
          replace hk := hk.below hb hk.lt
          replace hR := hR.below hb hR.lt
          replace hM := hM.below hb hM.lt
          replace hS2 := hS2.on hb
          replace hB := hB.trans (hb.mono hB.size)
          clear hb
          have c0 := hk.cell_ 0 rfl
          have c1 := hk.cell_ 1 rfl
          have c2 := hk.cell_ 2 rfl
          have c3 := hk.cell_ 3 rfl
          have c4 := hk.cell_ 4 rfl
          have c5 := hk.cell_ 5 rfl
          have r0 := hR.cell_ 0 rfl
          have r1 := hR.cell_ 1 rfl
          have r2 := hR.cell_ 2 rfl
          have r3 := hR.cell_ 3 rfl
          have r4 := hR.cell_ 4 rfl
          have m0 := hM.cell_ 0 rfl
          have m1 := hM.cell_ 1 rfl
          have m2 := hM.cell_ 2 rfl
          have m3 := hM.cell_ 3 rfl
          have m4 := hM.cell_ 4 rfl
          have m5 := hM.cell_ 5 rfl
          go_wp2_with fail
          go_ret
          exact ⟨rfl, hB⟩
        have hv2 := valid_facts hvB2
        have hrem0 := Int.emod_nonneg M (show p.cl - p.op ≠ 0 by omega)
        have hrem1 := Int.emod_lt_of_pos M (show 0 < p.cl - p.op by omega)
        have hW : ¬ (p.cl - p.op = 0) := by omega
        go_wp2_with fail
        generalize hKM : M % (p.cl - p.op) = KM at *
        clear hKM
        have n1 := hmore.next hv hv2 T0 (m := 1 + KM) (by omega)
        have n2 := hmore.after hv hv2 T0 (m := M % 5000) (by omega)
        refine (apiNext_any ⟨p, aH, cH, aS, cS, aJ, cJ⟩ T (1 + KM) _ (hS.on hB) hvB).mono ?_
        rintro e W ⟨rfl, hb⟩
        clear c0 c1 c2 c3 c4 c5 r0 r1 r2 r3 r4 m0 m1 m2 m3 m4 m5
        replace hk := hk.below hb hk.lt
        replace hR := hR.below hb hR.lt
        replace hM := hM.below hb hM.lt
        replace hS2 := hS2.on hb
        replace hB := hB.trans (hb.mono hB.size)
        clear hb
        have c0 := hk.cell_ 0 rfl
        have c1 := hk.cell_ 1 rfl
        have c2 := hk.cell_ 2 rfl
        have c3 := hk.cell_ 3 rfl
        have c4 := hk.cell_ 4 rfl
        have c5 := hk.cell_ 5 rfl
        have r0 := hR.cell_ 0 rfl
        have r1 := hR.cell_ 1 rfl
        have r2 := hR.cell_ 2 rfl
        have r3 := hR.cell_ 3 rfl
        have r4 := hR.cell_ 4 rfl
        have m0 := hM.cell_ 0 rfl
        have m1 := hM.cell_ 1 rfl
        have m2 := hM.cell_ 2 rfl
        have m3 := hM.cell_ 3 rfl
        have m4 := hM.cell_ 4 rfl
        have m5 := hM.cell_ 5 rfl
        rw [nextV_ok (by omega) (by omega) (by omega) (by dsimp only; omega)]
        go_wp2_with fail
        refine (apiNext_any ⟨{ p with hol := es }, A9, c9, aS, cS, aJ, cJ⟩ T (1 + KM) _ hS2 hvB2).mono ?_
        rintro e W ⟨rfl, hb⟩
        clear c0 c1 c2 c3 c4 c5 r0 r1 r2 r3 r4 m0 m1 m2 m3 m4 m5
        replace hk := hk.below hb hk.lt
        replace hR := hR.below hb hR.lt
        replace hM := hM.below hb hM.lt
        replace hS2 := hS2.on hb
        replace hB := hB.trans (hb.mono hB.size)
        clear hb
        have c0 := hk.cell_ 0 rfl
        have c1 := hk.cell_ 1 rfl
        have c2 := hk.cell_ 2 rfl
        have c3 := hk.cell_ 3 rfl
        have c4 := hk.cell_ 4 rfl
        have c5 := hk.cell_ 5 rfl
        have r0 := hR.cell_ 0 rfl
        have r1 := hR.cell_ 1 rfl
        have r2 := hR.cell_ 2 rfl
        have r3 := hR.cell_ 3 rfl
        have r4 := hR.cell_ 4 rfl
        have m0 := hM.cell_ 0 rfl
        have m1 := hM.cell_ 1 rfl
        have m2 := hM.cell_ 2 rfl
        have m3 := hM.cell_ 3 rfl
        have m4 := hM.cell_ 4 rfl
        have m5 := hM.cell_ 5 rfl
        rw [nextV_ok (by omega) (by omega) (by omega) (by dsimp only; omega)]
        go_wp2_with fail
        refine (apiAfter_any ⟨p, aH, cH, aS, cS, aJ, cJ⟩ T (M % 5000) _ (hS.on hB) hvB).mono ?_
        rintro e W ⟨rfl, hb⟩
        clear c0 c1 c2 c3 c4 c5 r0 r1 r2 r3 r4 m0 m1 m2 m3 m4 m5
        replace hk := hk.below hb hk.lt
        replace hR := hR.below hb hR.lt
        replace hM := hM.below hb hM.lt
        replace hS2 := hS2.on hb
        replace hB := hB.trans (hb.mono hB.size)
        clear hb
        have c0 := hk.cell_ 0 rfl
        have c1 := hk.cell_ 1 rfl
        have c2 := hk.cell_ 2 rfl
        have c3 := hk.cell_ 3 rfl
        have c4 := hk.cell_ 4 rfl
        have c5 := hk.cell_ 5 rfl
        have r0 := hR.cell_ 0 rfl
        have r1 := hR.cell_ 1 rfl
        have r2 := hR.cell_ 2 rfl
        have r3 := hR.cell_ 3 rfl
        have r4 := hR.cell_ 4 rfl
        have m0 := hM.cell_ 0 rfl
        have m1 := hM.cell_ 1 rfl
        have m2 := hM.cell_ 2 rfl
        have m3 := hM.cell_ 3 rfl
        have m4 := hM.cell_ 4 rfl
        have m5 := hM.cell_ 5 rfl
        rw [afterV_ok (by omega) (by omega) (by omega) (by omega)]
        go_wp2_with fail
        refine (apiAfter_any ⟨{ p with hol := es }, A9, c9, aS, cS, aJ, cJ⟩ T (M % 5000) _ hS2 hvB2).mono ?_
        rintro e W ⟨rfl, hb⟩
        clear c0 c1 c2 c3 c4 c5 r0 r1 r2 r3 r4 m0 m1 m2 m3 m4 m5
        replace hk := hk.below hb hk.lt
        replace hR := hR.below hb hR.lt
        replace hM := hM.below hb hM.lt
        replace hS2 := hS2.on hb
        replace hB := hB.trans (hb.mono hB.size)
        clear hb
        have c0 := hk.cell_ 0 rfl
        have c1 := hk.cell_ 1 rfl
        have c2 := hk.cell_ 2 rfl
        have c3 := hk.cell_ 3 rfl
        have c4 := hk.cell_ 4 rfl
        have c5 := hk.cell_ 5 rfl
        have r0 := hR.cell_ 0 rfl
        have r1 := hR.cell_ 1 rfl
        have r2 := hR.cell_ 2 rfl
        have r3 := hR.cell_ 3 rfl
        have r4 := hR.cell_ 4 rfl
        have m0 := hM.cell_ 0 rfl
        have m1 := hM.cell_ 1 rfl
        have m2 := hM.cell_ 2 rfl
        have m3 := hM.cell_ 3 rfl
        have m4 := hM.cell_ 4 rfl
        have m5 := hM.cell_ 5 rfl
        rw [afterV_ok (by omega) (by omega) (by omega) (by omega)]
        dsimp only
        by_cases hj0 : 0 < p.jobs.length
        · have hjne : ¬ ((p.jobs.length : Int) = 0) := by omega
          have hj1 := Int.emod_nonneg J hjne
          have hj2 := Int.emod_lt_of_pos J (show 0 < (p.jobs.length : Int) by omega)
          obtain ⟨n, hn⟩ : ∃ n : Nat, J % (p.jobs.length : Int) = n := ⟨(J % (p.jobs.length : Int)).toNat, by omega⟩
          obtain ⟨l, hjl⟩ : ∃ l, p.jobs[n]? = some l := ⟨_, List.getElem?_eq_getElem (by omega)⟩
          have n3 := hmore.chain hv hv2 hjl
          have HJ := hide hjl
          have ht : J.tmod (p.jobs.length : Int) = n := by rw [Int.tmod_eq_emod_of_nonneg J0]; exact hn
          clear hjl hn hj1 hj2
          have HSW := hS.on hB
          go_wp2_with fail
          refine wp_region_quiet (C := fun w' => ∃ u : Since W, w' = u.w) (by kernel_rfl) (by kernel_rfl) (Since.start W) ?_
          dsimp only
          have y_c0 := Since.cell c0
          have y_c1 := Since.cell c1
          have y_c2 := Since.cell c2
          have y_c3 := Since.cell c3
          have y_c4 := Since.cell c4
          have y_c5 := Since.cell c5
          have y_r0 := Since.cell r0
          have y_r1 := Since.cell r1
          have y_r2 := Since.cell r2
          have y_r3 := Since.cell r3
          have y_r4 := Since.cell r4
          have y_m0 := Since.cell m0
          have y_m1 := Since.cell m1
          have y_m2 := Since.cell m2
          have y_m3 := Since.cell m3
          have y_m4 := Since.cell m4
          have y_m5 := Since.cell m5
          clear c0 c1 c2 c3 c4 c5 r0 r1 r2 r3 r4 m0 m1 m2 m3 m4 m5
          repeat (go_big_quiet_step ((go_at_call 27; exact Since.calls (apiChain_ok ⟨p, aH, cH, aS, cS, aJ, cJ⟩ n l _ (HSW.on (Since.h _)) hvB HJ.out))))
          refine wpQuiet_nil ?_
          rintro W ⟨⟨_, hb⟩, rfl⟩
          try dsimp only at hb ⊢
          clear y_c0 y_c1 y_c2 y_c3 y_c4 y_c5 y_r0 y_r1 y_r2 y_r3 y_r4 y_m0 y_m1 y_m2 y_m3 y_m4 y_m5
          replace hk := hk.below hb hk.lt
          replace hR := hR.below hb hR.lt
          replace hM := hM.below hb hM.lt
          replace hS2 := hS2.on hb
          replace hB := hB.trans (hb.mono hB.size)
          clear hb
          have c0 := hk.cell_ 0 rfl
          have c1 := hk.cell_ 1 rfl
          have c2 := hk.cell_ 2 rfl
          have c3 := hk.cell_ 3 rfl
          have c4 := hk.cell_ 4 rfl
          have c5 := hk.cell_ 5 rfl
          have r0 := hR.cell_ 0 rfl
          have r1 := hR.cell_ 1 rfl
          have r2 := hR.cell_ 2 rfl
          have r3 := hR.cell_ 3 rfl
          have r4 := hR.cell_ 4 rfl
          have m0 := hM.cell_ 0 rfl
          have m1 := hM.cell_ 1 rfl
          have m2 := hM.cell_ 2 rfl
          have m3 := hM.cell_ 3 rfl
          have m4 := hM.cell_ 4 rfl
          have m5 := hM.cell_ 5 rfl
          have HSW := hS2
          go_wp2_with fail
          refine wp_region_quiet (C := fun w' => ∃ u : Since W, w' = u.w) (by kernel_rfl) (by kernel_rfl) (Since.start W) ?_
          dsimp only
          have y_c0 := Since.cell c0
          have y_c1 := Since.cell c1
          have y_c2 := Since.cell c2
          have y_c3 := Since.cell c3
          have y_c4 := Since.cell c4
          have y_c5 := Since.cell c5
          have y_r0 := Since.cell r0
          have y_r1 := Since.cell r1
          have y_r2 := Since.cell r2
          have y_r3 := Since.cell r3
          have y_r4 := Since.cell r4
          have y_m0 := Since.cell m0
          have y_m1 := Since.cell m1
          have y_m2 := Since.cell m2
          have y_m3 := Since.cell m3
          have y_m4 := Since.cell m4
          have y_m5 := Since.cell m5
          clear c0 c1 c2 c3 c4 c5 r0 r1 r2 r3 r4 m0 m1 m2 m3 m4 m5
          repeat (go_big_quiet_step ((go_at_call 27; exact Since.calls (apiChain_ok ⟨{ p with hol := es }, A9, c9, aS, cS, aJ, cJ⟩ n l _ (HSW.on (Since.h _)) hvB2 HJ.out))))
          refine wpQuiet_nil ?_
          rintro W ⟨⟨_, hb⟩, rfl⟩
          try dsimp only at hb ⊢
          clear y_c0 y_c1 y_c2 y_c3 y_c4 y_c5 y_r0 y_r1 y_r2 y_r3 y_r4 y_m0 y_m1 y_m2 y_m3 y_m4 y_m5
          replace hk := hk.below hb hk.lt
          replace hR := hR.below hb hR.lt
          replace hM := hM.below hb hM.lt
          replace hS2 := hS2.on hb
          replace hB := hB.trans (hb.mono hB.size)
          clear hb
          have c0 := hk.cell_ 0 rfl
          have c1 := hk.cell_ 1 rfl
          have c2 := hk.cell_ 2 rfl
          have c3 := hk.cell_ 3 rfl
          have c4 := hk.cell_ 4 rfl
          have c5 := hk.cell_ 5 rfl
          have r0 := hR.cell_ 0 rfl
          have r1 := hR.cell_ 1 rfl
          have r2 := hR.cell_ 2 rfl
          have r3 := hR.cell_ 3 rfl
          have r4 := hR.cell_ 4 rfl
          have m0 := hM.cell_ 0 rfl
          have m1 := hM.cell_ 1 rfl
          have m2 := hM.cell_ 2 rfl
          have m3 := hM.cell_ 3 rfl
          have m4 := hM.cell_ 4 rfl
          have m5 := hM.cell_ 5 rfl
          have hmne : ¬ (p.mach = 0) := by have := hv.mach1; omega
          have hk1 := Int.emod_nonneg K hmne
          have hk2 := Int.emod_lt_of_pos K (show 0 < p.mach by have := hv.mach1; omega)
          have n4 := hmore.load hv hv2 (K % p.mach)
          have ht2 : K.tmod p.mach = K % p.mach := Int.tmod_eq_emod_of_nonneg K0
          have n4 := hmore.load hv hv2 (K % p.mach)
          generalize K % p.mach = Q at *
          have HSW := hS.on hB
          go_wp2_with fail
          refine wp_region_quiet (C := fun w' => ∃ u : Since W, w' = u.w) (by kernel_rfl) (by kernel_rfl) (Since.start W) ?_
          dsimp only
          have y_c0 := Since.cell c0
          have y_c1 := Since.cell c1
          have y_c2 := Since.cell c2
          have y_c3 := Since.cell c3
          have y_c4 := Since.cell c4
          have y_c5 := Since.cell c5
          have y_r0 := Since.cell r0
          have y_r1 := Since.cell r1
          have y_r2 := Since.cell r2
          have y_r3 := Since.cell r3
          have y_r4 := Since.cell r4
          have y_m0 := Since.cell m0
          have y_m1 := Since.cell m1
          have y_m2 := Since.cell m2
          have y_m3 := Since.cell m3
          have y_m4 := Since.cell m4
          have y_m5 := Since.cell m5
          clear c0 c1 c2 c3 c4 c5 r0 r1 r2 r3 r4 m0 m1 m2 m3 m4 m5
          repeat (go_big_quiet_step ((go_at_call 28; exact Since.calls (apiLoad_ok ⟨p, aH, cH, aS, cS, aJ, cJ⟩ Q _ (HSW.on (Since.h _)) hvB hk1 hk2))))
          refine wpQuiet_nil ?_
          rintro W ⟨⟨_, hb⟩, rfl⟩
          try dsimp only at hb ⊢
          clear y_c0 y_c1 y_c2 y_c3 y_c4 y_c5 y_r0 y_r1 y_r2 y_r3 y_r4 y_m0 y_m1 y_m2 y_m3 y_m4 y_m5
          replace hk := hk.below hb hk.lt
          replace hR := hR.below hb hR.lt
          replace hM := hM.below hb hM.lt
          replace hS2 := hS2.on hb
          replace hB := hB.trans (hb.mono hB.size)
          clear hb
          have c0 := hk.cell_ 0 rfl
          have c1 := hk.cell_ 1 rfl
          have c2 := hk.cell_ 2 rfl
          have c3 := hk.cell_ 3 rfl
          have c4 := hk.cell_ 4 rfl
          have c5 := hk.cell_ 5 rfl
          have r0 := hR.cell_ 0 rfl
          have r1 := hR.cell_ 1 rfl
          have r2 := hR.cell_ 2 rfl
          have r3 := hR.cell_ 3 rfl
          have r4 := hR.cell_ 4 rfl
          have m0 := hM.cell_ 0 rfl
          have m1 := hM.cell_ 1 rfl
          have m2 := hM.cell_ 2 rfl
          have m3 := hM.cell_ 3 rfl
          have m4 := hM.cell_ 4 rfl
          have m5 := hM.cell_ 5 rfl
          have HSW := hS2
          go_wp2_with fail
          refine wp_region_quiet (C := fun w' => ∃ u : Since W, w' = u.w) (by kernel_rfl) (by kernel_rfl) (Since.start W) ?_
          dsimp only
          have y_c0 := Since.cell c0
          have y_c1 := Since.cell c1
          have y_c2 := Since.cell c2
          have y_c3 := Since.cell c3
          have y_c4 := Since.cell c4
          have y_c5 := Since.cell c5
          have y_r0 := Since.cell r0
          have y_r1 := Since.cell r1
          have y_r2 := Since.cell r2
          have y_r3 := Since.cell r3
          have y_r4 := Since.cell r4
          have y_m0 := Since.cell m0
          have y_m1 := Since.cell m1
          have y_m2 := Since.cell m2
          have y_m3 := Since.cell m3
          have y_m4 := Since.cell m4
          have y_m5 := Since.cell m5
          clear c0 c1 c2 c3 c4 c5 r0 r1 r2 r3 r4 m0 m1 m2 m3 m4 m5
          repeat (go_big_quiet_step ((go_at_call 28; exact Since.calls (apiLoad_ok ⟨{ p with hol := es }, A9, c9, aS, cS, aJ, cJ⟩ Q _ (HSW.on (Since.h _)) hvB2 hk1 hk2))))
          refine wpQuiet_nil ?_
          rintro W ⟨⟨_, hb⟩, rfl⟩
          try dsimp only at hb ⊢
          clear y_c0 y_c1 y_c2 y_c3 y_c4 y_c5 y_r0 y_r1 y_r2 y_r3 y_r4 y_m0 y_m1 y_m2 y_m3 y_m4 y_m5
          replace hk := hk.below hb hk.lt
          replace hR := hR.below hb hR.lt
          replace hM := hM.below hb hM.lt
          replace hS2 := hS2.on hb
          replace hB := hB.trans (hb.mono hB.size)
          clear hb
          have c0 := hk.cell_ 0 rfl
          have c1 := hk.cell_ 1 rfl
          have c2 := hk.cell_ 2 rfl
          have c3 := hk.cell_ 3 rfl
          have c4 := hk.cell_ 4 rfl
          have c5 := hk.cell_ 5 rfl
          have r0 := hR.cell_ 0 rfl
          have r1 := hR.cell_ 1 rfl
          have r2 := hR.cell_ 2 rfl
          have r3 := hR.cell_ 3 rfl
          have r4 := hR.cell_ 4 rfl
          have m0 := hM.cell_ 0 rfl
          have m1 := hM.cell_ 1 rfl
          have m2 := hM.cell_ 2 rfl
          have m3 := hM.cell_ 3 rfl
          have m4 := hM.cell_ 4 rfl
          have m5 := hM.cell_ 5 rfl
          go_wp2_with fail
          refine (first_any _).mono ?_
          rintro e W ⟨rfl, hb⟩
          clear c0 c1 c2 c3 c4 c5 r0 r1 r2 r3 r4 m0 m1 m2 m3 m4 m5
          replace hk := hk.below hb hk.lt
          replace hR := hR.below hb hR.lt
          replace hM := hM.below hb hM.lt
          replace hS2 := hS2.on hb
          replace hB := hB.trans (hb.mono hB.size)
          clear hb
          have c0 := hk.cell_ 0 rfl
          have c1 := hk.cell_ 1 rfl
          have c2 := hk.cell_ 2 rfl
          have c3 := hk.cell_ 3 rfl
          have c4 := hk.cell_ 4 rfl
          have c5 := hk.cell_ 5 rfl
          have r0 := hR.cell_ 0 rfl
          have r1 := hR.cell_ 1 rfl
          have r2 := hR.cell_ 2 rfl
          have r3 := hR.cell_ 3 rfl
          have r4 := hR.cell_ 4 rfl
          have m0 := hM.cell_ 0 rfl
          have m1 := hM.cell_ 1 rfl
          have m2 := hM.cell_ 2 rfl
          have m3 := hM.cell_ 3 rfl
          have m4 := hM.cell_ 4 rfl
          have m5 := hM.cell_ 5 rfl
          go_wp2_with fail
          go_ret
          exact ⟨rfl, hB⟩
        · have hj0' : ¬ ((0 : Int) < (p.jobs.length : Int)) := by omega
          have hmne : ¬ (p.mach = 0) := by have := hv.mach1; omega
          have hk1 := Int.emod_nonneg K hmne
          have hk2 := Int.emod_lt_of_pos K (show 0 < p.mach by have := hv.mach1; omega)
          have n4 := hmore.load hv hv2 (K % p.mach)
          have ht2 : K.tmod p.mach = K % p.mach := Int.tmod_eq_emod_of_nonneg K0
          have n4 := hmore.load hv hv2 (K % p.mach)
          generalize K % p.mach = Q at *
          have HSW := hS.on hB
          go_wp2_with fail
          refine wp_region_quiet (C := fun w' => ∃ u : Since W, w' = u.w) (by kernel_rfl) (by kernel_rfl) (Since.start W) ?_
          dsimp only
          have y_c0 := Since.cell c0
          have y_c1 := Since.cell c1
          have y_c2 := Since.cell c2
          have y_c3 := Since.cell c3
          have y_c4 := Since.cell c4
          have y_c5 := Since.cell c5
          have y_r0 := Since.cell r0
          have y_r1 := Since.cell r1
          have y_r2 := Since.cell r2
          have y_r3 := Since.cell r3
          have y_r4 := Since.cell r4
          have y_m0 := Since.cell m0
          have y_m1 := Since.cell m1
          have y_m2 := Since.cell m2
          have y_m3 := Since.cell m3
          have y_m4 := Since.cell m4
          have y_m5 := Since.cell m5
          clear c0 c1 c2 c3 c4 c5 r0 r1 r2 r3 r4 m0 m1 m2 m3 m4 m5
          repeat (go_big_quiet_step ((go_at_call 28; exact Since.calls (apiLoad_ok ⟨p, aH, cH, aS, cS, aJ, cJ⟩ Q _ (HSW.on (Since.h _)) hvB hk1 hk2))))
          refine wpQuiet_nil ?_
          rintro W ⟨⟨_, hb⟩, rfl⟩
          try dsimp only at hb ⊢
          clear y_c0 y_c1 y_c2 y_c3 y_c4 y_c5 y_r0 y_r1 y_r2 y_r3 y_r4 y_m0 y_m1 y_m2 y_m3 y_m4 y_m5
          replace hk := hk.below hb hk.lt
          replace hR := hR.below hb hR.lt
          replace hM := hM.below hb hM.lt
          replace hS2 := hS2.on hb
          replace hB := hB.trans (hb.mono hB.size)
          clear hb
          have c0 := hk.cell_ 0 rfl
          have c1 := hk.cell_ 1 rfl
          have c2 := hk.cell_ 2 rfl
          have c3 := hk.cell_ 3 rfl
          have c4 := hk.cell_ 4 rfl
          have c5 := hk.cell_ 5 rfl
          have r0 := hR.cell_ 0 rfl
          have r1 := hR.cell_ 1 rfl
          have r2 := hR.cell_ 2 rfl
          have r3 := hR.cell_ 3 rfl
          have r4 := hR.cell_ 4 rfl
          have m0 := hM.cell_ 0 rfl
          have m1 := hM.cell_ 1 rfl
          have m2 := hM.cell_ 2 rfl
          have m3 := hM.cell_ 3 rfl
          have m4 := hM.cell_ 4 rfl
          have m5 := hM.cell_ 5 rfl
          have HSW := hS2
          go_wp2_with fail
          refine wp_region_quiet (C := fun w' => ∃ u : Since W, w' = u.w) (by kernel_rfl) (by kernel_rfl) (Since.start W) ?_
          dsimp only
          have y_c0 := Since.cell c0
          have y_c1 := Since.cell c1
          have y_c2 := Since.cell c2
          have y_c3 := Since.cell c3
          have y_c4 := Since.cell c4
          have y_c5 := Since.cell c5
          have y_r0 := Since.cell r0
          have y_r1 := Since.cell r1
          have y_r2 := Since.cell r2
          have y_r3 := Since.cell r3
          have y_r4 := Since.cell r4
          have y_m0 := Since.cell m0
          have y_m1 := Since.cell m1
          have y_m2 := Since.cell m2
          have y_m3 := Since.cell m3
          have y_m4 := Since.cell m4
          have y_m5 := Since.cell m5
          clear c0 c1 c2 c3 c4 c5 r0 r1 r2 r3 r4 m0 m1 m2 m3 m4 m5
          repeat (go_big_quiet_step ((go_at_call 28; exact Since.calls (apiLoad_ok ⟨{ p with hol := es }, A9, c9, aS, cS, aJ, cJ⟩ Q _ (HSW.on (Since.h _)) hvB2 hk1 hk2))))
          refine wpQuiet_nil ?_
          rintro W ⟨⟨_, hb⟩, rfl⟩
          try dsimp only at hb ⊢
          clear y_c0 y_c1 y_c2 y_c3 y_c4 y_c5 y_r0 y_r1 y_r2 y_r3 y_r4 y_m0 y_m1 y_m2 y_m3 y_m4 y_m5
          replace hk := hk.below hb hk.lt
          replace hR := hR.below hb hR.lt
          replace hM := hM.below hb hM.lt
          replace hS2 := hS2.on hb
          replace hB := hB.trans (hb.mono hB.size)
          clear hb
          have c0 := hk.cell_ 0 rfl
          have c1 := hk.cell_ 1 rfl
          have c2 := hk.cell_ 2 rfl
          have c3 := hk.cell_ 3 rfl
          have c4 := hk.cell_ 4 rfl
          have c5 := hk.cell_ 5 rfl
          have r0 := hR.cell_ 0 rfl
          have r1 := hR.cell_ 1 rfl
          have r2 := hR.cell_ 2 rfl
          have r3 := hR.cell_ 3 rfl
          have r4 := hR.cell_ 4 rfl
          have m0 := hM.cell_ 0 rfl
          have m1 := hM.cell_ 1 rfl
          have m2 := hM.cell_ 2 rfl
          have m3 := hM.cell_ 3 rfl
          have m4 := hM.cell_ 4 rfl
          have m5 := hM.cell_ 5 rfl
          go_wp2_with fail
          refine (first_any _).mono ?_
          rintro e W ⟨rfl, hb⟩
          clear c0 c1 c2 c3 c4 c5 r0 r1 r2 r3 r4 m0 m1 m2 m3 m4 m5
          replace hk := hk.below hb hk.lt
          replace hR := hR.below hb hR.lt
          replace hM := hM.below hb hM.lt
          replace hS2 := hS2.on hb
          replace hB := hB.trans (hb.mono hB.size)
          clear hb
          have c0 := hk.cell_ 0 rfl
          have c1 := hk.cell_ 1 rfl
          have c2 := hk.cell_ 2 rfl
          have c3 := hk.cell_ 3 rfl
          have c4 := hk.cell_ 4 rfl
          have c5 := hk.cell_ 5 rfl
          have r0 := hR.cell_ 0 rfl
          have r1 := hR.cell_ 1 rfl
          have r2 := hR.cell_ 2 rfl
          have r3 := hR.cell_ 3 rfl
          have r4 := hR.cell_ 4 rfl
          have m0 := hM.cell_ 0 rfl
          have m1 := hM.cell_ 1 rfl
          have m2 := hM.cell_ 2 rfl
          have m3 := hM.cell_ 3 rfl
          have m4 := hM.cell_ 4 rfl
          have m5 := hM.cell_ 5 rfl
          go_wp2_with fail
          go_ret
          exact ⟨rfl, hB⟩
      case false =>
        have HES := hide (show es ++ [day] = insF day false p.hol by rw [← hes]; simp [insF])
        clear hes
        have c0 := hk.cell_ 0 rfl
        have c1 := hk.cell_ 1 rfl
        have c2 := hk.cell_ 2 rfl
        have c3 := hk.cell_ 3 rfl
        have c4 := hk.cell_ 4 rfl
        have c5 := hk.cell_ 5 rfl
        have r0 := hR.cell_ 0 rfl
        have r1 := hR.cell_ 1 rfl
        have r2 := hR.cell_ 2 rfl
        have r3 := hR.cell_ 3 rfl
        have r4 := hR.cell_ 4 rfl
        have m0 := hM.cell_ 0 rfl
        have m1 := hM.cell_ 1 rfl
        have m2 := hM.cell_ 2 rfl
        have m3 := hM.cell_ 3 rfl
        have m4 := hM.cell_ 4 rfl
        have m5 := hM.cell_ 5 rfl
        have f2 := hM.frozen 2
        go_wp2_with (at_builtin; refine wpList_app _ _ rfl rfl et_int hO rfl rfl (y := day) rfl rfl rfl (by omega) (by omega) ?_; intro v' W' hO' hb hgt; obtain ⟨A8, c8, rfl, _⟩ := hO'.form (fun _ => rfl); clear c0 c1 c2 c3 c4 c5 r0 r1 r2 r3 r4 m0 m1 m2 m3 m4 m5 f2; replace hk := hk.below hb (by omega); replace hR := hR.below hb (by omega); replace hM := hM.below hb (by omega); replace hB := hB.trans (hb.mono (by omega)); have m0 := hM.cell_ 0 rfl; have m1 := hM.cell_ 1 rfl; have m2 := hM.cell_ 2 rfl; have m3 := hM.cell_ 3 rfl; have m4 := hM.cell_ 4 rfl; have m5 := hM.cell_ 5 rfl; have f2 := hM.frozen 2)
        clear m0 m1 m2 m3 m4 m5 f2
        replace hk := hk.far (p := ⟨bm, 2, none⟩) (by simp; omega) (.slice A8 (es.length + 1) c8)
        replace hR := hR.far (p := ⟨bm, 2, none⟩) (by simp; omega) (.slice A8 (es.length + 1) c8)
        replace hM := hM.set_ 2 (.slice A8 (es.length + 1) c8)
        replace hB := hB.setCell (p := ⟨bm, 2, none⟩) (by simp; omega) (.slice A8 (es.length + 1) c8)
        simp only [List.length_append, List.length_cons, List.length_nil, Nat.zero_add] at hO'
        have hO2 := hO'.setBelow (p := ⟨bm, 2, none⟩) (by simp) (.slice A8 (es.length + 1) c8)
        generalize W'.setCell ⟨bm, 2, none⟩ (.slice A8 (es.length + 1) c8) = W at *
        replace hz : bm + 1 ≤ W.heap.size := hM.lt
        have hel2 : (es ++ [day]).length ≤ 2 * p.hol.length + 1 := by simp; omega
        have hlen : (es ++ [day]).length = es.length + 1 := by simp
        have hO : Own W (bm + 1) 3 1 intEnc (.slice A8 (es.length + 1) c8) (es ++ [day]) := hO2
        clear hO2 hO' hel
        rw [← hlen] at hO hM ⊢
        generalize es ++ [day] = es at *
        clear hlen
        obtain ⟨A9, c9, hv9, hSl⟩ := hO.form (fun _ => rfl)
        injection hv9 with h1 h2 h3
        subst h1 h3
        have c0 := hk.cell_ 0 rfl
        have c1 := hk.cell_ 1 rfl
        have c2 := hk.cell_ 2 rfl
        have c3 := hk.cell_ 3 rfl
        have c4 := hk.cell_ 4 rfl
        have c5 := hk.cell_ 5 rfl
        have r0 := hR.cell_ 0 rfl
        have r1 := hR.cell_ 1 rfl
        have r2 := hR.cell_ 2 rfl
        have r3 := hR.cell_ 3 rfl
        have r4 := hR.cell_ 4 rfl
        have m0 := hM.cell_ 0 rfl
        have m1 := hM.cell_ 1 rfl
        have m2 := hM.cell_ 2 rfl
        have m3 := hM.cell_ 3 rfl
        have m4 := hM.cell_ 4 rfl
        have m5 := hM.cell_ 5 rfl
        have hmore : More p { p with hol := es } := by rw [HES.out]; exact insF_more p day
        clear HES
        have hS2 : ShAt W W.heap.size ⟨{ p with hol := es }, A8, c8, aS, cS, aJ, cJ⟩ := ⟨hSl, (hS.on hB).setup, (hS.on hB).jobs⟩
        clear hO hSl
        have hf2 : Fits { p with hol := es } := ⟨by show es.length ≤ _; omega, hf.h2, hf.h3, hf.h4⟩
        refine (refValid_any ⟨{ p with hol := es }, A8, c8, aS, cS, aJ, cJ⟩ _ hS2 hf2.h1 hf2.h2 hf2.h3 hf2.h4).mono ?_
        rintro e W ⟨rfl, hb⟩
        clear c0 c1 c2 c3 c4 c5 r0 r1 r2 r3 r4 m0 m1 m2 m3 m4 m5
        replace hk := hk.below hb hk.lt
        replace hR := hR.below hb hR.lt
        replace hM := hM.below hb hM.lt
        replace hS2 := hS2.on hb
        replace hB := hB.trans (hb.mono hB.size)
        clear hb
        have c0 := hk.cell_ 0 rfl
        have c1 := hk.cell_ 1 rfl
        have c2 := hk.cell_ 2 rfl
        have c3 := hk.cell_ 3 rfl
        have c4 := hk.cell_ 4 rfl
        have c5 := hk.cell_ 5 rfl
        have r0 := hR.cell_ 0 rfl
        have r1 := hR.cell_ 1 rfl
        have r2 := hR.cell_ 2 rfl
        have r3 := hR.cell_ 3 rfl
        have r4 := hR.cell_ 4 rfl
        have m0 := hM.cell_ 0 rfl
        have m1 := hM.cell_ 1 rfl
        have m2 := hM.cell_ 2 rfl
        have m3 := hM.cell_ 3 rfl
        have m4 := hM.cell_ 4 rfl
        have m5 := hM.cell_ 5 rfl
        cases hvB2 : validShop { p with hol := es }
        case false =>
          go_wp2_with fail
          refine (first_any _).mono ?_
          rintro e W ⟨rfl, hb⟩
          clear c0 c1 c2 c3 c4 c5 r0 r1 r2 r3 r4 m0 m1 m2 m3 m4 m5
          replace hk := hk.below hb hk.lt
          replace hR := hR.below hb hR.lt
          replace hM := hM.below hb hM.lt
          replace hS2 := hS2.on hb
          replace hB := hB.trans (hb.mono hB.size)
          clear hb
          have c0 := hk.cell_ 0 rfl
          have c1 := hk.cell_ 1 rfl
          have c2 := hk.cell_ 2 rfl
          have c3 := hk.cell_ 3 rfl
          have c4 := hk.cell_ 4 rfl
          have c5 := hk.cell_ 5 rfl
          have r0 := hR.cell_ 0 rfl
          have r1 := hR.cell_ 1 rfl
          have r2 := hR.cell_ 2 rfl
          have r3 := hR.cell_ 3 rfl
          have r4 := hR.cell_ 4 rfl
          have m0 := hM.cell_ 0 rfl
          have m1 := hM.cell_ 1 rfl
          have m2 := hM.cell_ 2 rfl
          have m3 := hM.cell_ 3 rfl
          have m4 := hM.cell_ 4 rfl
          have m5 := hM.cell_ 5 rfl
          go_wp2_with fail
          go_ret
          exact ⟨rfl, hB⟩
        have hv2 := valid_facts hvB2
        have hrem0 := Int.emod_nonneg M (show p.cl - p.op ≠ 0 by omega)
        have hrem1 := Int.emod_lt_of_pos M (show 0 < p.cl - p.op by omega)
        have hW : ¬ (p.cl - p.op = 0) := by omega
        go_wp2_with fail
        generalize hKM : M % (p.cl - p.op) = KM at *
        clear hKM
        have n1 := hmore.next hv hv2 T0 (m := 1 + KM) (by omega)
        have n2 := hmore.after hv hv2 T0 (m := M % 5000) (by omega)
        refine (apiNext_any ⟨p, aH, cH, aS, cS, aJ, cJ⟩ T (1 + KM) _ (hS.on hB) hvB).mono ?_
        rintro e W ⟨rfl, hb⟩
        clear c0 c1 c2 c3 c4 c5 r0 r1 r2 r3 r4 m0 m1 m2 m3 m4 m5
        replace hk := hk.below hb hk.lt
        replace hR := hR.below hb hR.lt
        replace hM := hM.below hb hM.lt
        replace hS2 := hS2.on hb
        replace hB := hB.trans (hb.mono hB.size)
        clear hb
        have c0 := hk.cell_ 0 rfl
        have c1 := hk.cell_ 1 rfl
        have c2 := hk.cell_ 2 rfl
        have c3 := hk.cell_ 3 rfl
        have c4 := hk.cell_ 4 rfl
        have c5 := hk.cell_ 5 rfl
        have r0 := hR.cell_ 0 rfl
        have r1 := hR.cell_ 1 rfl
        have r2 := hR.cell_ 2 rfl
        have r3 := hR.cell_ 3 rfl
        have r4 := hR.cell_ 4 rfl
        have m0 := hM.cell_ 0 rfl
        have m1 := hM.cell_ 1 rfl
        have m2 := hM.cell_ 2 rfl
        have m3 := hM.cell_ 3 rfl
        have m4 := hM.cell_ 4 rfl
        have m5 := hM.cell_ 5 rfl
        rw [nextV_ok (by omega) (by omega) (by omega) (by dsimp only; omega)]
        go_wp2_with fail
        refine (apiNext_any ⟨{ p with hol := es }, A8, c8, aS, cS, aJ, cJ⟩ T (1 + KM) _ hS2 hvB2).mono ?_
        rintro e W ⟨rfl, hb⟩
        clear c0 c1 c2 c3 c4 c5 r0 r1 r2 r3 r4 m0 m1 m2 m3 m4 m5
        replace hk := hk.below hb hk.lt
        replace hR := hR.below hb hR.lt
        replace hM := hM.below hb hM.lt
        replace hS2 := hS2.on hb
        replace hB := hB.trans (hb.mono hB.size)
        clear hb
        have c0 := hk.cell_ 0 rfl
        have c1 := hk.cell_ 1 rfl
        have c2 := hk.cell_ 2 rfl
        have c3 := hk.cell_ 3 rfl
        have c4 := hk.cell_ 4 rfl
        have c5 := hk.cell_ 5 rfl
        have r0 := hR.cell_ 0 rfl
        have r1 := hR.cell_ 1 rfl
        have r2 := hR.cell_ 2 rfl
        have r3 := hR.cell_ 3 rfl
        have r4 := hR.cell_ 4 rfl
        have m0 := hM.cell_ 0 rfl
        have m1 := hM.cell_ 1 rfl
        have m2 := hM.cell_ 2 rfl
        have m3 := hM.cell_ 3 rfl
        have m4 := hM.cell_ 4 rfl
        have m5 := hM.cell_ 5 rfl
        rw [nextV_ok (by omega) (by omega) (by omega) (by dsimp only; omega)]
        go_wp2_with fail
        refine (apiAfter_any ⟨p, aH, cH, aS, cS, aJ, cJ⟩ T (M % 5000) _ (hS.on hB) hvB).mono ?_
        rintro e W ⟨rfl, hb⟩
        clear c0 c1 c2 c3 c4 c5 r0 r1 r2 r3 r4 m0 m1 m2 m3 m4 m5
        replace hk := hk.below hb hk.lt
        replace hR := hR.below hb hR.lt
        replace hM := hM.below hb hM.lt
        replace hS2 := hS2.on hb
        replace hB := hB.trans (hb.mono hB.size)
        clear hb
        have c0 := hk.cell_ 0 rfl
        have c1 := hk.cell_ 1 rfl
        have c2 := hk.cell_ 2 rfl
        have c3 := hk.cell_ 3 rfl
        have c4 := hk.cell_ 4 rfl
        have c5 := hk.cell_ 5 rfl
        have r0 := hR.cell_ 0 rfl
        have r1 := hR.cell_ 1 rfl
        have r2 := hR.cell_ 2 rfl
        have r3 := hR.cell_ 3 rfl
        have r4 := hR.cell_ 4 rfl
        have m0 := hM.cell_ 0 rfl
        have m1 := hM.cell_ 1 rfl
        have m2 := hM.cell_ 2 rfl
        have m3 := hM.cell_ 3 rfl
        have m4 := hM.cell_ 4 rfl
        have m5 := hM.cell_ 5 rfl
        rw [afterV_ok (by omega) (by omega) (by omega) (by omega)]
        go_wp2_with fail
        refine (apiAfter_any ⟨{ p with hol := es }, A8, c8, aS, cS, aJ, cJ⟩ T (M % 5000) _ hS2 hvB2).mono ?_
        rintro e W ⟨rfl, hb⟩
        clear c0 c1 c2 c3 c4 c5 r0 r1 r2 r3 r4 m0 m1 m2 m3 m4 m5
        replace hk := hk.below hb hk.lt
        replace hR := hR.below hb hR.lt
        replace hM := hM.below hb hM.lt
        replace hS2 := hS2.on hb
        replace hB := hB.trans (hb.mono hB.size)
        clear hb
        have c0 := hk.cell_ 0 rfl
        have c1 := hk.cell_ 1 rfl
        have c2 := hk.cell_ 2 rfl
        have c3 := hk.cell_ 3 rfl
        have c4 := hk.cell_ 4 rfl
        have c5 := hk.cell_ 5 rfl
        have r0 := hR.cell_ 0 rfl
        have r1 := hR.cell_ 1 rfl
        have r2 := hR.cell_ 2 rfl
        have r3 := hR.cell_ 3 rfl
        have r4 := hR.cell_ 4 rfl
        have m0 := hM.cell_ 0 rfl
        have m1 := hM.cell_ 1 rfl
        have m2 := hM.cell_ 2 rfl
        have m3 := hM.cell_ 3 rfl
        have m4 := hM.cell_ 4 rfl
        have m5 := hM.cell_ 5 rfl
        rw [afterV_ok (by omega) (by omega) (by omega) (by omega)]
        dsimp only
        by_cases hj0 : 0 < p.jobs.length
        · have hjne : ¬ ((p.jobs.length : Int) = 0) := by omega
          have hj1 := Int.emod_nonneg J hjne
          have hj2 := Int.emod_lt_of_pos J (show 0 < (p.jobs.length : Int) by omega)
          obtain ⟨n, hn⟩ : ∃ n : Nat, J % (p.jobs.length : Int) = n := ⟨(J % (p.jobs.length : Int)).toNat, by omega⟩
          obtain ⟨l, hjl⟩ : ∃ l, p.jobs[n]? = some l := ⟨_, List.getElem?_eq_getElem (by omega)⟩
          have n3 := hmore.chain hv hv2 hjl
          have HJ := hide hjl
          have ht : J.tmod (p.jobs.length : Int) = n := by rw [Int.tmod_eq_emod_of_nonneg J0]; exact hn
          clear hjl hn hj1 hj2
          have HSW := hS.on hB
          go_wp2_with fail
          refine wp_region_quiet (C := fun w' => ∃ u : Since W, w' = u.w) (by kernel_rfl) (by kernel_rfl) (Since.start W) ?_
          dsimp only
          have y_c0 := Since.cell c0
          have y_c1 := Since.cell c1
          have y_c2 := Since.cell c2
          have y_c3 := Since.cell c3
          have y_c4 := Since.cell c4
          have y_c5 := Since.cell c5
          have y_r0 := Since.cell r0
          have y_r1 := Since.cell r1
          have y_r2 := Since.cell r2
          have y_r3 := Since.cell r3
          have y_r4 := Since.cell r4
          have y_m0 := Since.cell m0
          have y_m1 := Since.cell m1
          have y_m2 := Since.cell m2
          have y_m3 := Since.cell m3
          have y_m4 := Since.cell m4
          have y_m5 := Since.cell m5
          clear c0 c1 c2 c3 c4 c5 r0 r1 r2 r3 r4 m0 m1 m2 m3 m4 m5
          repeat (go_big_quiet_step ((go_at_call 27; exact Since.calls (apiChain_ok ⟨p, aH, cH, aS, cS, aJ, cJ⟩ n l _ (HSW.on (Since.h _)) hvB HJ.out))))
          refine wpQuiet_nil ?_
          rintro W ⟨⟨_, hb⟩, rfl⟩
          try dsimp only at hb ⊢
          clear y_c0 y_c1 y_c2 y_c3 y_c4 y_c5 y_r0 y_r1 y_r2 y_r3 y_r4 y_m0 y_m1 y_m2 y_m3 y_m4 y_m5
          replace hk := hk.below hb hk.lt
          replace hR := hR.below hb hR.lt
          replace hM := hM.below hb hM.lt
          replace hS2 := hS2.on hb
          replace hB := hB.trans (hb.mono hB.size)
          clear hb
          have c0 := hk.cell_ 0 rfl
          have c1 := hk.cell_ 1 rfl
          have c2 := hk.cell_ 2 rfl
          have c3 := hk.cell_ 3 rfl
          have c4 := hk.cell_ 4 rfl
          have c5 := hk.cell_ 5 rfl
          have r0 := hR.cell_ 0 rfl
          have r1 := hR.cell_ 1 rfl
          have r2 := hR.cell_ 2 rfl
          have r3 := hR.cell_ 3 rfl
          have r4 := hR.cell_ 4 rfl
          have m0 := hM.cell_ 0 rfl
          have m1 := hM.cell_ 1 rfl
          have m2 := hM.cell_ 2 rfl
          have m3 := hM.cell_ 3 rfl
          have m4 := hM.cell_ 4 rfl
          have m5 := hM.cell_ 5 rfl
          have HSW := hS2
          go_wp2_with fail
          refine wp_region_quiet (C := fun w' => ∃ u : Since W, w' = u.w) (by kernel_rfl) (by kernel_rfl) (Since.start W) ?_
          dsimp only
          have y_c0 := Since.cell c0
          have y_c1 := Since.cell c1
          have y_c2 := Since.cell c2
          have y_c3 := Since.cell c3
          have y_c4 := Since.cell c4
          have y_c5 := Since.cell c5
          have y_r0 := Since.cell r0
          have y_r1 := Since.cell r1
          have y_r2 := Since.cell r2
          have y_r3 := Since.cell r3
          have y_r4 := Since.cell r4
          have y_m0 := Since.cell m0
          have y_m1 := Since.cell m1
          have y_m2 := Since.cell m2
          have y_m3 := Since.cell m3
          have y_m4 := Since.cell m4
          have y_m5 := Since.cell m5
          clear c0 c1 c2 c3 c4 c5 r0 r1 r2 r3 r4 m0 m1 m2 m3 m4 m5
          repeat (go_big_quiet_step ((go_at_call 27; exact Since.calls (apiChain_ok ⟨{ p with hol := es }, A8, c8, aS, cS, aJ, cJ⟩ n l _ (HSW.on (Since.h _)) hvB2 HJ.out))))
          refine wpQuiet_nil ?_
          rintro W ⟨⟨_, hb⟩, rfl⟩
          try dsimp only at hb ⊢
          clear y_c0 y_c1 y_c2 y_c3 y_c4 y_c5 y_r0 y_r1 y_r2 y_r3 y_r4 y_m0 y_m1 y_m2 y_m3 y_m4 y_m5
          replace hk := hk.below hb hk.lt
          replace hR := hR.below hb hR.lt
          replace hM := hM.below hb hM.lt
          replace hS2 := hS2.on hb
          replace hB := hB.trans (hb.mono hB.size)
          clear hb
          have c0 := hk.cell_ 0 rfl
          have c1 := hk.cell_ 1 rfl
          have c2 := hk.cell_ 2 rfl
          have c3 := hk.cell_ 3 rfl
          have c4 := hk.cell_ 4 rfl
          have c5 := hk.cell_ 5 rfl
          have r0 := hR.cell_ 0 rfl
          have r1 := hR.cell_ 1 rfl
          have r2 := hR.cell_ 2 rfl
          have r3 := hR.cell_ 3 rfl
          have r4 := hR.cell_ 4 rfl
          have m0 := hM.cell_ 0 rfl
          have m1 := hM.cell_ 1 rfl
          have m2 := hM.cell_ 2 rfl
          have m3 := hM.cell_ 3 rfl
          have m4 := hM.cell_ 4 rfl
          have m5 := hM.cell_ 5 rfl
          have hmne : ¬ (p.mach = 0) := by have := hv.mach1; omega
          have hk1 := Int.emod_nonneg K hmne
          have hk2 := Int.emod_lt_of_pos K (show 0 < p.mach by have := hv.mach1; omega)
          have n4 := hmore.load hv hv2 (K % p.mach)
          have ht2 : K.tmod p.mach = K % p.mach := Int.tmod_eq_emod_of_nonneg K0
          have n4 := hmore.load hv hv2 (K % p.mach)
          generalize K % p.mach = Q at *
          have HSW := hS.on hB
          go_wp2_with fail
          refine wp_region_quiet (C := fun w' => ∃ u : Since W, w' = u.w) (by kernel_rfl) (by kernel_rfl) (Since.start W) ?_
          dsimp only
          have y_c0 := Since.cell c0
          have y_c1 := Since.cell c1
          have y_c2 := Since.cell c2
          have y_c3 := Since.cell c3
          have y_c4 := Since.cell c4
          have y_c5 := Since.cell c5
          have y_r0 := Since.cell r0
          have y_r1 := Since.cell r1
          have y_r2 := Since.cell r2
          have y_r3 := Since.cell r3
          have y_r4 := Since.cell r4
          have y_m0 := Since.cell m0
          have y_m1 := Since.cell m1
          have y_m2 := Since.cell m2
          have y_m3 := Since.cell m3
          have y_m4 := Since.cell m4
          have y_m5 := Since.cell m5
          clear c0 c1 c2 c3 c4 c5 r0 r1 r2 r3 r4 m0 m1 m2 m3 m4 m5
          repeat (go_big_quiet_step ((go_at_call 28; exact Since.calls (apiLoad_ok ⟨p, aH, cH, aS, cS, aJ, cJ⟩ Q _ (HSW.on (Since.h _)) hvB hk1 hk2))))
          refine wpQuiet_nil ?_
          rintro W ⟨⟨_, hb⟩, rfl⟩
          try dsimp only at hb ⊢
          clear y_c0 y_c1 y_c2 y_c3 y_c4 y_c5 y_r0 y_r1 y_r2 y_r3 y_r4 y_m0 y_m1 y_m2 y_m3 y_m4 y_m5
          replace hk := hk.below hb hk.lt
          replace hR := hR.below hb hR.lt
          replace hM := hM.below hb hM.lt
          replace hS2 := hS2.on hb
          replace hB := hB.trans (hb.mono hB.size)
          clear hb
          have c0 := hk.cell_ 0 rfl
          have c1 := hk.cell_ 1 rfl
          have c2 := hk.cell_ 2 rfl
          have c3 := hk.cell_ 3 rfl
          have c4 := hk.cell_ 4 rfl
          have c5 := hk.cell_ 5 rfl
          have r0 := hR.cell_ 0 rfl
          have r1 := hR.cell_ 1 rfl
          have r2 := hR.cell_ 2 rfl
          have r3 := hR.cell_ 3 rfl
          have r4 := hR.cell_ 4 rfl
          have m0 := hM.cell_ 0 rfl
          have m1 := hM.cell_ 1 rfl
          have m2 := hM.cell_ 2 rfl
          have m3 := hM.cell_ 3 rfl
          have m4 := hM.cell_ 4 rfl
          have m5 := hM.cell_ 5 rfl
          have HSW := hS2
          go_wp2_with fail
          refine wp_region_quiet (C := fun w' => ∃ u : Since W, w' = u.w) (by kernel_rfl) (by kernel_rfl) (Since.start W) ?_
          dsimp only
          have y_c0 := Since.cell c0
          have y_c1 := Since.cell c1
          have y_c2 := Since.cell c2
          have y_c3 := Since.cell c3
          have y_c4 := Since.cell c4
          have y_c5 := Since.cell c5
          have y_r0 := Since.cell r0
          have y_r1 := Since.cell r1
          have y_r2 := Since.cell r2
          have y_r3 := Since.cell r3
          have y_r4 := Since.cell r4
          have y_m0 := Since.cell m0
          have y_m1 := Since.cell m1
          have y_m2 := Since.cell m2
          have y_m3 := Since.cell m3
          have y_m4 := Since.cell m4
          have y_m5 := Since.cell m5
          clear c0 c1 c2 c3 c4 c5 r0 r1 r2 r3 r4 m0 m1 m2 m3 m4 m5
          repeat (go_big_quiet_step ((go_at_call 28; exact Since.calls (apiLoad_ok ⟨{ p with hol := es }, A8, c8, aS, cS, aJ, cJ⟩ Q _ (HSW.on (Since.h _)) hvB2 hk1 hk2))))
          refine wpQuiet_nil ?_
          rintro W ⟨⟨_, hb⟩, rfl⟩
          try dsimp only at hb ⊢
          clear y_c0 y_c1 y_c2 y_c3 y_c4 y_c5 y_r0 y_r1 y_r2 y_r3 y_r4 y_m0 y_m1 y_m2 y_m3 y_m4 y_m5
          replace hk := hk.below hb hk.lt
          replace hR := hR.below hb hR.lt
          replace hM := hM.below hb hM.lt
          replace hS2 := hS2.on hb
          replace hB := hB.trans (hb.mono hB.size)
          clear hb
          have c0 := hk.cell_ 0 rfl
          have c1 := hk.cell_ 1 rfl
          have c2 := hk.cell_ 2 rfl
          have c3 := hk.cell_ 3 rfl
          have c4 := hk.cell_ 4 rfl
          have c5 := hk.cell_ 5 rfl
          have r0 := hR.cell_ 0 rfl
          have r1 := hR.cell_ 1 rfl
          have r2 := hR.cell_ 2 rfl
          have r3 := hR.cell_ 3 rfl
          have r4 := hR.cell_ 4 rfl
          have m0 := hM.cell_ 0 rfl
          have m1 := hM.cell_ 1 rfl
          have m2 := hM.cell_ 2 rfl
          have m3 := hM.cell_ 3 rfl
          have m4 := hM.cell_ 4 rfl
          have m5 := hM.cell_ 5 rfl
          go_wp2_with fail
          refine (first_any _).mono ?_
          rintro e W ⟨rfl, hb⟩
          clear c0 c1 c2 c3 c4 c5 r0 r1 r2 r3 r4 m0 m1 m2 m3 m4 m5
          replace hk := hk.below hb hk.lt
          replace hR := hR.below hb hR.lt
          replace hM := hM.below hb hM.lt
          replace hS2 := hS2.on hb
          replace hB := hB.trans (hb.mono hB.size)
          clear hb
          have c0 := hk.cell_ 0 rfl
          have c1 := hk.cell_ 1 rfl
          have c2 := hk.cell_ 2 rfl
          have c3 := hk.cell_ 3 rfl
          have c4 := hk.cell_ 4 rfl
          have c5 := hk.cell_ 5 rfl
          have r0 := hR.cell_ 0 rfl
          have r1 := hR.cell_ 1 rfl
          have r2 := hR.cell_ 2 rfl
          have r3 := hR.cell_ 3 rfl
          have r4 := hR.cell_ 4 rfl
          have m0 := hM.cell_ 0 rfl
          have m1 := hM.cell_ 1 rfl
          have m2 := hM.cell_ 2 rfl
          have m3 := hM.cell_ 3 rfl
          have m4 := hM.cell_ 4 rfl
          have m5 := hM.cell_ 5 rfl
          go_wp2_with fail
          go_ret
          exact ⟨rfl, hB⟩
        · have hj0' : ¬ ((0 : Int) < (p.jobs.length : Int)) := by omega
          have hmne : ¬ (p.mach = 0) := by have := hv.mach1; omega
          have hk1 := Int.emod_nonneg K hmne
          have hk2 := Int.emod_lt_of_pos K (show 0 < p.mach by have := hv.mach1; omega)
          have n4 := hmore.load hv hv2 (K % p.mach)
          have ht2 : K.tmod p.mach = K % p.mach := Int.tmod_eq_emod_of_nonneg K0
          have n4 := hmore.load hv hv2 (K % p.mach)
          generalize K % p.mach = Q at *
          have HSW := hS.on hB
          go_wp2_with fail
          refine wp_region_quiet (C := fun w' => ∃ u : Since W, w' = u.w) (by kernel_rfl) (by kernel_rfl) (Since.start W) ?_
          dsimp only
          have y_c0 := Since.cell c0
          have y_c1 := Since.cell c1
          have y_c2 := Since.cell c2
          have y_c3 := Since.cell c3
          have y_c4 := Since.cell c4
          have y_c5 := Since.cell c5
          have y_r0 := Since.cell r0
          have y_r1 := Since.cell r1
          have y_r2 := Since.cell r2
          have y_r3 := Since.cell r3
          have y_r4 := Since.cell r4
          have y_m0 := Since.cell m0
          have y_m1 := Since.cell m1
          have y_m2 := Since.cell m2
          have y_m3 := Since.cell m3
          have y_m4 := Since.cell m4
          have y_m5 := Since.cell m5
          clear c0 c1 c2 c3 c4 c5 r0 r1 r2 r3 r4 m0 m1 m2 m3 m4 m5
          repeat (go_big_quiet_step ((go_at_call 28; exact Since.calls (apiLoad_ok ⟨p, aH, cH, aS, cS, aJ, cJ⟩ Q _ (HSW.on (Since.h _)) hvB hk1 hk2))))
          refine wpQuiet_nil ?_
          rintro W ⟨⟨_, hb⟩, rfl⟩
          try dsimp only at hb ⊢
          clear y_c0 y_c1 y_c2 y_c3 y_c4 y_c5 y_r0 y_r1 y_r2 y_r3 y_r4 y_m0 y_m1 y_m2 y_m3 y_m4 y_m5
          replace hk := hk.below hb hk.lt
          replace hR := hR.below hb hR.lt
          replace hM := hM.below hb hM.lt
          replace hS2 := hS2.on hb
          replace hB := hB.trans (hb.mono hB.size)
          clear hb
          have c0 := hk.cell_ 0 rfl
          have c1 := hk.cell_ 1 rfl
          have c2 := hk.cell_ 2 rfl
          have c3 := hk.cell_ 3 rfl
          have c4 := hk.cell_ 4 rfl
          have c5 := hk.cell_ 5 rfl
          have r0 := hR.cell_ 0 rfl
          have r1 := hR.cell_ 1 rfl
          have r2 := hR.cell_ 2 rfl
          have r3 := hR.cell_ 3 rfl
          have r4 := hR.cell_ 4 rfl
          have m0 := hM.cell_ 0 rfl
          have m1 := hM.cell_ 1 rfl
          have m2 := hM.cell_ 2 rfl
          have m3 := hM.cell_ 3 rfl
          have m4 := hM.cell_ 4 rfl
          have m5 := hM.cell_ 5 rfl
          have HSW := hS2
          go_wp2_with fail
          refine wp_region_quiet (C := fun w' => ∃ u : Since W, w' = u.w) (by kernel_rfl) (by kernel_rfl) (Since.start W) ?_
          dsimp only
          have y_c0 := Since.cell c0
          have y_c1 := Since.cell c1
          have y_c2 := Since.cell c2
          have y_c3 := Since.cell c3
          have y_c4 := Since.cell c4
          have y_c5 := Since.cell c5
          have y_r0 := Since.cell r0
          have y_r1 := Since.cell r1
          have y_r2 := Since.cell r2
          have y_r3 := Since.cell r3
          have y_r4 := Since.cell r4
          have y_m0 := Since.cell m0
          have y_m1 := Since.cell m1
          have y_m2 := Since.cell m2
          have y_m3 := Since.cell m3
          have y_m4 := Since.cell m4
          have y_m5 := Since.cell m5
          clear c0 c1 c2 c3 c4 c5 r0 r1 r2 r3 r4 m0 m1 m2 m3 m4 m5
          repeat (go_big_quiet_step ((go_at_call 28; exact Since.calls (apiLoad_ok ⟨{ p with hol := es }, A8, c8, aS, cS, aJ, cJ⟩ Q _ (HSW.on (Since.h _)) hvB2 hk1 hk2))))
          refine wpQuiet_nil ?_
          rintro W ⟨⟨_, hb⟩, rfl⟩
          try dsimp only at hb ⊢
          clear y_c0 y_c1 y_c2 y_c3 y_c4 y_c5 y_r0 y_r1 y_r2 y_r3 y_r4 y_m0 y_m1 y_m2 y_m3 y_m4 y_m5
          replace hk := hk.below hb hk.lt
          replace hR := hR.below hb hR.lt
          replace hM := hM.below hb hM.lt
          replace hS2 := hS2.on hb
          replace hB := hB.trans (hb.mono hB.size)
          clear hb
          have c0 := hk.cell_ 0 rfl
          have c1 := hk.cell_ 1 rfl
          have c2 := hk.cell_ 2 rfl
          have c3 := hk.cell_ 3 rfl
          have c4 := hk.cell_ 4 rfl
          have c5 := hk.cell_ 5 rfl
          have r0 := hR.cell_ 0 rfl
          have r1 := hR.cell_ 1 rfl
          have r2 := hR.cell_ 2 rfl
          have r3 := hR.cell_ 3 rfl
          have r4 := hR.cell_ 4 rfl
          have m0 := hM.cell_ 0 rfl
          have m1 := hM.cell_ 1 rfl
          have m2 := hM.cell_ 2 rfl
          have m3 := hM.cell_ 3 rfl
          have m4 := hM.cell_ 4 rfl
          have m5 := hM.cell_ 5 rfl
          go_wp2_with fail
          refine (first_any _).mono ?_
          rintro e W ⟨rfl, hb⟩
          clear c0 c1 c2 c3 c4 c5 r0 r1 r2 r3 r4 m0 m1 m2 m3 m4 m5
          replace hk := hk.below hb hk.lt
          replace hR := hR.below hb hR.lt
          replace hM := hM.below hb hM.lt
          replace hS2 := hS2.on hb
          replace hB := hB.trans (hb.mono hB.size)
          clear hb
          have c0 := hk.cell_ 0 rfl
          have c1 := hk.cell_ 1 rfl
          have c2 := hk.cell_ 2 rfl
          have c3 := hk.cell_ 3 rfl
          have c4 := hk.cell_ 4 rfl
          have c5 := hk.cell_ 5 rfl
          have r0 := hR.cell_ 0 rfl
          have r1 := hR.cell_ 1 rfl
          have r2 := hR.cell_ 2 rfl
          have r3 := hR.cell_ 3 rfl
          have r4 := hR.cell_ 4 rfl
          have m0 := hM.cell_ 0 rfl
          have m1 := hM.cell_ 1 rfl
          have m2 := hM.cell_ 2 rfl
          have m3 := hM.cell_ 3 rfl
          have m4 := hM.cell_ 4 rfl
          have m5 := hM.cell_ 5 rfl
          go_wp2_with fail
          go_ret
          exact ⟨rfl, hB⟩
end Go.Proofs.Ytcpnfcnobnjhdaa
