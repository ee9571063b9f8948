/- Open minutes: the walks. -/
import Derived.Test.YtcpnfcnobnjhdaaHoursP
namespace Go.Proofs.Ytcpnfcnobnjhdaa
open Go.RowKit

theorem oprod_bd {p : Shop} (hv : VShop p) {t : Int} (ht : 0 ≤ t) : -1000000 ≤ (t / 1440 - (lbN p.hol (t / 1440) : Int)) * (p.cl - p.op) ∧ (t / 1440 - (lbN p.hol (t / 1440) : Int)) * (p.cl - p.op) ≤ t := by
  have v1 := hv.op0
  have v2 := hv.opcl
  have v3 := hv.cl
  have v4 := hv.holn
  have h1 := lb_le p.hol (t / 1440)
  generalize hW : p.cl - p.op = W
  have a1 : (t / 1440 - (lbN p.hol (t / 1440) : Int)) * W ≤ (t / 1440) * W := Int.mul_le_mul_of_nonneg_right (by omega) (by omega)
  have a2 : (t / 1440) * W ≤ (t / 1440) * 1440 := Int.mul_le_mul_of_nonneg_left (by omega) (by omega)
  have a3 : (-400) * W ≤ (t / 1440 - (lbN p.hol (t / 1440) : Int)) * W := Int.mul_le_mul_of_nonneg_right (by omega) (by omega)
  omega

theorem openBefore_any (s : Sh) (t : Int) (w : World) (hS : ShAt w w.heap.size s) (hv : VShop s.p) (ht : 0 ≤ t) (ht' : t ≤ 1000000000000) :
    Calls Try.prog 55 #[.agg #[.int .i64 s.p.op, .int .i64 s.p.cl, .slice s.aH s.p.hol.length s.cH, .int .i64 s.p.mach, .slice s.aS s.p.setup.length s.cS, .slice s.aJ s.p.jobs.length s.cJ], .int .i64 t] w fun e w' => e = .returned (.int .i64 (oB s.p t)) ∧ Below w.heap.size w w' := by
  have v1 := hv.op0
  have v2 := hv.opcl
  have v3 := hv.cl
  have v4 := hv.holn
  have hl := lb_le s.p.hol (t / 1440)
  have hX := oprod_bd hv ht
  have HE : Hid (oB s.p t = (t / 1440 - lbN s.p.hol (t / 1440)) * (s.p.cl - s.p.op) + dayO s.p (t / 1440) (t % 1440)) := rfl
  have hk := Blk.new w 25 #[.int .i64 s.p.op, .int .i64 s.p.cl, .slice s.aH s.p.hol.length s.cH, .int .i64 s.p.mach, .slice s.aS s.p.setup.length s.cS, .slice s.aJ s.p.jobs.length s.cJ]
  have hw := (Below.refl w.heap.size w).alloc (Nat.le_refl _) (.cells #[.int .i64 s.p.op, .int .i64 s.p.cl, .slice s.aH s.p.hol.length s.cH, .int .i64 s.p.mach, .slice s.aS s.p.setup.length s.cS, .slice s.aJ s.p.jobs.length s.cJ] 25)
  have HSW := hS.on hw
  go_enter Try.func55, Try.ntmps55
  go_wp2_with fail
  generalize w.alloc (.cells #[.int .i64 s.p.op, .int .i64 s.p.cl, .slice s.aH s.p.hol.length s.cH, .int .i64 s.p.mach, .slice s.aS s.p.setup.length s.cS, .slice s.aJ s.p.jobs.length s.cJ] 25) = W at *
  have c0 := hk.cell_ 0 rfl
  have c1 := hk.cell_ 1 rfl
  have c2 := hk.cell_ 2 rfl
  have c3 := hk.cell_ 3 rfl
  have c4 := hk.cell_ 4 rfl
  have c5 := hk.cell_ 5 rfl
  go_wp2_with fail
  refine (search_any _ s.aH s.cH s.p.hol _ (by omega) hv.asc HSW.hol).mono ?_
  rintro e w2 ⟨rfl, rfl⟩
  have eX : IntKind.i64.wrap ((t / 1440 - (lbN s.p.hol (t / 1440) : Int)) * (s.p.cl - s.p.op)) = (t / 1440 - (lbN s.p.hol (t / 1440) : Int)) * (s.p.cl - s.p.op) := IntWalk.i64_in _ (by omega)
  go_wp2_with fail
  generalize (t / 1440 - (lbN s.p.hol (t / 1440) : Int)) * (s.p.cl - s.p.op) = X at *
  refine (free_any s _ W HSW hv).mono ?_
  rintro e w2 ⟨rfl, hb⟩
  have hb2 := hw.trans (hb.mono hw.size)
  have hk2 := hk.below hb hk.lt
  have c0' := hk2.cell_ 0 rfl
  have c1' := hk2.cell_ 1 rfl
  cases hf : hasB s.p.hol (t / 1440)
  · by_cases h1 : s.p.cl < t % 1440
    · go_wp2_with fail
      go_ret
      exact ⟨ret_int (by rw [HE.out]; unfold dayO; rw [hf, if_neg Bool.false_ne_true]; omega), hb2⟩
    · by_cases h2 : 0 < t % 1440 - s.p.op
      · go_wp2_with fail
        go_ret
        exact ⟨ret_int (by rw [HE.out]; unfold dayO; rw [hf, if_neg Bool.false_ne_true]; omega), hb2⟩
      · go_wp2_with fail
        go_ret
        exact ⟨ret_int (by rw [HE.out]; unfold dayO; rw [hf, if_neg Bool.false_ne_true]; omega), hb2⟩
  · go_wp2_with fail
    go_ret
    exact ⟨ret_int (by rw [HE.out]; unfold dayO; rw [hf, if_pos rfl]; omega), hb2⟩

set_option maxRecDepth 100000 in
theorem after_any (s : Sh) (t m : Int) (w : World) (hS : ShAt w w.heap.size s) (hv : VShop s.p) (ht : 0 ≤ t) (ht' : t ≤ 10000000000) (hm : 0 ≤ m) (hm' : m ≤ 10000000) :
    Calls Try.prog 53 #[.agg #[.int .i64 s.p.op, .int .i64 s.p.cl, .slice s.aH s.p.hol.length s.cH, .int .i64 s.p.mach, .slice s.aS s.p.setup.length s.cS, .slice s.aJ s.p.jobs.length s.cJ], .int .i64 t, .int .i64 m] w fun e w' => e = .returned (.int .i64 (afterF s.p t m)) ∧ Below w.heap.size w w' := by
  have v1 := hv.op0
  have v2 := hv.opcl
  have v3 := hv.cl
  have v4 := hv.holn
  have hp := oB_pos hv ht
  obtain ⟨hf1, hf2⟩ := far_bd hv ht hm (by omega)
  have HF := hide (oB_far hv (want := oB s.p t + m) (by omega))
  have hk := Blk.new w 25 #[.int .i64 s.p.op, .int .i64 s.p.cl, .slice s.aH s.p.hol.length s.cH, .int .i64 s.p.mach, .slice s.aS s.p.setup.length s.cS, .slice s.aJ s.p.jobs.length s.cJ]
  have hw := (Below.refl w.heap.size w).alloc (Nat.le_refl _) (.cells #[.int .i64 s.p.op, .int .i64 s.p.cl, .slice s.aH s.p.hol.length s.cH, .int .i64 s.p.mach, .slice s.aS s.p.setup.length s.cS, .slice s.aJ s.p.jobs.length s.cJ] 25)
  have HSW := hS.on hw
  go_enter Try.func53, Try.ntmps53
  go_wp2_with fail
  refine (openBefore_any s t _ HSW hv ht (by omega)).mono ?_
  rintro e w2 ⟨rfl, hb⟩
  have hb2 := hw.trans (hb.mono hw.size)
  have hk2 := hk.below hb hk.lt
  by_cases h0 : m = 0
  · subst h0
    go_wp2_with fail
    go_ret
    exact ⟨ret_int (after_zero _ _).symm, hb2⟩
  · have hm0b : (m == 0) = false := by simpa using h0
    go_wp2_with fail
    clear hb hw hk HSW
    refine wp_region_quiet (C := fun w' => ∃ u : Since w2, w' = u.w) (by kernel_rfl) (by kernel_rfl) (Since.start w2) ?_
    dsimp only
    have y0 := Since.cell (hk2.cell_ 0 rfl)
    have y1 := Since.cell (hk2.cell_ 1 rfl)
    have y2 := Since.cell (hk2.cell_ 2 rfl)
    have hW : ¬ (s.p.cl - s.p.op = 0) := by omega
    have e1 : IntKind.i64.wrap (s.p.cl - s.p.op) = s.p.cl - s.p.op := IntWalk.i64_in _ (by omega)
    repeat (go_big_quiet_step ((fail)))
    refine wpQuiet_nil ?_
    rintro _ ⟨u, rfl⟩
    have hk3 := hk2.below u.h hk2.lt
    have hb3 := hb2.trans (u.h.mono hb2.size)
    clear y0 y1 y2 hk2 hb2
    generalize hH : ((oB s.p t + m) / (s.p.cl - s.p.op) + s.p.hol.length + 2) * 1440 = H at *
    go_wp2_with fail
    go_loopw [8, 9] (fun x y wr => ∃ lo hi : Int, x = .int .i64 lo ∧ y = .int .i64 hi ∧ t ≤ lo ∧ lo < hi ∧ hi ≤ H ∧ oB s.p lo < oB s.p t + m ∧ oB s.p t + m ≤ oB s.p hi ∧ Blk wr w.heap.size 25 #[.int .i64 s.p.op, .int .i64 s.p.cl, .slice s.aH s.p.hol.length s.cH, .int .i64 s.p.mach, .slice s.aS s.p.setup.length s.cS, .slice s.aJ s.p.jobs.length s.cJ] ∧ Below w.heap.size w wr) (fun x y _ => (intOf y - intOf x).toNat)
    case atStart =>
      refine ⟨t, H, rfl, rfl, Int.le_refl _, ?_, Int.le_refl _, by omega, HF.out, hk3, hb3⟩
      rcases Int.lt_or_le t H with h | h
      · exact h
      · have := HF.out; have := (oB_mono hv h).1; omega
    case round =>
      clear hk3 hb3
      obtain ⟨lo, hi, rfl, rfl, h1, h2, h3, h4, h5, hk, hbel⟩ := hrel
      have H4 := hide h4
      have H5 := hide h5
      clear h4 h5
      have c0 := hk.cell_ 0 rfl
      have c1 := hk.cell_ 1 rfl
      have c2 := hk.cell_ 2 rfl
      have c3 := hk.cell_ 3 rfl
      have c4 := hk.cell_ 4 rfl
      have c5 := hk.cell_ 5 rfl
      by_cases hd : 1 < hi - lo
      · go_wp2_with fail
        refine (openBefore_any s ((lo + hi) / 2) _ (hS.on hbel) hv (by omega) (by omega)).mono ?_
        rintro e w3 ⟨rfl, hb⟩
        have hb3 := hbel.trans (hb.mono hbel.size)
        have hk3 := hk.below hb hk.lt
        by_cases hm2 : oB s.p t + m ≤ oB s.p ((lo + hi) / 2)
        · have H6 := hide hm2
          go_wp2_with fail
          go_roundw
          case rel => exact ⟨lo, (lo + hi) / 2, rfl, rfl, h1, by omega, by omega, H4.out, H6.out, hk3, hb3⟩
          case measure => simp [intOf]; omega
        · have H6 := hide (Int.not_le.1 hm2)
          go_wp2_with fail
          go_roundw
          case rel => exact ⟨(lo + hi) / 2, hi, rfl, rfl, by omega, by omega, by omega, H6.out, H5.out, hk3, hb3⟩
          case measure => simp [intOf]; omega
      · go_wp2_with fail
        go_ret
        have e : hi = lo + 1 := by omega
        refine ⟨ret_int (after_eq h0 ⟨H5.out, fun r' hr => ?_⟩).symm, hbel⟩
        have := (oB_mono hv (t := r') (u := lo) (by omega)).1
        have := H4.out
        omega

theorem opened_any (s : Sh) (d f t : Int) (w : World) (hS : ShAt w w.heap.size s) (hv : VShop s.p) (hd : 0 ≤ d) (hd' : d ≤ 1000000000) (hf : 0 ≤ f) (hf' : f ≤ 1000000000000) (ht : 0 ≤ t) (ht' : t ≤ 1000000000000) :
    Calls Try.prog 54 #[.agg #[.int .i64 s.p.op, .int .i64 s.p.cl, .slice s.aH s.p.hol.length s.cH, .int .i64 s.p.mach, .slice s.aS s.p.setup.length s.cS, .slice s.aJ s.p.jobs.length s.cJ], .int .i64 d, .int .i64 f, .int .i64 t] w fun e w' => e = .returned (.int .i64 (opnd s.p d f t)) ∧ Below w.heap.size w w' := by
  have v1 := hv.op0
  have v2 := hv.opcl
  have v3 := hv.cl
  have HE : Hid (opnd s.p d f t = if hasB s.p.hol d then 0 else max 0 (min t (1440 * d + s.p.cl) - max f (1440 * d + s.p.op))) := rfl
  have hk := Blk.new w 25 #[.int .i64 s.p.op, .int .i64 s.p.cl, .slice s.aH s.p.hol.length s.cH, .int .i64 s.p.mach, .slice s.aS s.p.setup.length s.cS, .slice s.aJ s.p.jobs.length s.cJ]
  have hw := (Below.refl w.heap.size w).alloc (Nat.le_refl _) (.cells #[.int .i64 s.p.op, .int .i64 s.p.cl, .slice s.aH s.p.hol.length s.cH, .int .i64 s.p.mach, .slice s.aS s.p.setup.length s.cS, .slice s.aJ s.p.jobs.length s.cJ] 25)
  have HSW := hS.on hw
  go_enter Try.func54, Try.ntmps54
  go_wp2_with fail
  refine (rfree_any s _ _ HSW hv).mono ?_
  rintro e w2 ⟨rfl, hb⟩
  have hb2 := hw.trans (hb.mono hw.size)
  have hk2 := hk.below hb hk.lt
  have c0' := hk2.cell_ 0 rfl
  have c1' := hk2.cell_ 1 rfl
  cases hh : hasB s.p.hol d
  · by_cases h1 : 1440 * d + s.p.cl < t
    · by_cases h2 : f < 1440 * d + s.p.op
      · by_cases h3 : 0 < 1440 * d + s.p.cl - (1440 * d + s.p.op)
        · go_wp2_with fail
          go_ret
          exact ⟨ret_int (by rw [HE.out, hh, if_neg Bool.false_ne_true]; omega), hb2⟩
        · omega
      · by_cases h3 : 0 < 1440 * d + s.p.cl - f
        · go_wp2_with fail
          go_ret
          exact ⟨ret_int (by rw [HE.out, hh, if_neg Bool.false_ne_true]; omega), hb2⟩
        · go_wp2_with fail
          go_ret
          exact ⟨ret_int (by rw [HE.out, hh, if_neg Bool.false_ne_true]; omega), hb2⟩
    · by_cases h2 : f < 1440 * d + s.p.op
      · by_cases h3 : 0 < t - (1440 * d + s.p.op)
        · go_wp2_with fail
          go_ret
          exact ⟨ret_int (by rw [HE.out, hh, if_neg Bool.false_ne_true]; omega), hb2⟩
        · go_wp2_with fail
          go_ret
          exact ⟨ret_int (by rw [HE.out, hh, if_neg Bool.false_ne_true]; omega), hb2⟩
      · by_cases h3 : 0 < t - f
        · go_wp2_with fail
          go_ret
          exact ⟨ret_int (by rw [HE.out, hh, if_neg Bool.false_ne_true]; omega), hb2⟩
        · go_wp2_with fail
          go_ret
          exact ⟨ret_int (by rw [HE.out, hh, if_neg Bool.false_ne_true]; omega), hb2⟩
  · go_wp2_with fail
    go_ret
    exact ⟨ret_int (by rw [HE.out, hh, if_pos rfl]), hb2⟩

theorem refWorked_any (s : Sh) (f t : Int) (w : World) (hS : ShAt w w.heap.size s) (hv : VShop s.p) (h0 : 0 ≤ f) (hft : f ≤ t) (ht : t ≤ 100000000000) :
    Calls Try.prog 26 #[.agg #[.int .i64 s.p.op, .int .i64 s.p.cl, .slice s.aH s.p.hol.length s.cH, .int .i64 s.p.mach, .slice s.aS s.p.setup.length s.cS, .slice s.aJ s.p.jobs.length s.cJ], .int .i64 f, .int .i64 t] w fun e w' => e = .returned (.int .i64 (oB s.p t - oB s.p f)) ∧ Below w.heap.size w w' := by
  have hk := Blk.new w 25 #[.int .i64 s.p.op, .int .i64 s.p.cl, .slice s.aH s.p.hol.length s.cH, .int .i64 s.p.mach, .slice s.aS s.p.setup.length s.cS, .slice s.aJ s.p.jobs.length s.cJ]
  have hw := (Below.refl w.heap.size w).alloc (Nat.le_refl _) (.cells #[.int .i64 s.p.op, .int .i64 s.p.cl, .slice s.aH s.p.hol.length s.cH, .int .i64 s.p.mach, .slice s.aS s.p.setup.length s.cS, .slice s.aJ s.p.jobs.length s.cJ] 25)
  have hp1 := oB_pos hv h0
  have hp2 := oB_mono hv hft
  go_enter Try.func26, Try.ntmps26
  go_wp2_with fail
  go_loopw [7, 8] (fun x y wr => ∃ d : Int, x = .int .i64 (oB s.p (min t (max f (1440 * d))) - oB s.p f) ∧ y = .int .i64 d ∧ f / 1440 ≤ d ∧ d ≤ t / 1440 + 1 ∧ Blk wr w.heap.size 25 #[.int .i64 s.p.op, .int .i64 s.p.cl, .slice s.aH s.p.hol.length s.cH, .int .i64 s.p.mach, .slice s.aS s.p.setup.length s.cS, .slice s.aJ s.p.jobs.length s.cJ] ∧ Below w.heap.size w wr) (fun _ y _ => (t / 1440 + 1 - intOf y).toNat)
  case atStart => exact ⟨f / 1440, by rw [show min t (max f (1440 * (f / 1440))) = f by omega, Int.sub_self], rfl, Int.le_refl _, by omega, hk, hw⟩
  case round =>
    clear hk hw
    obtain ⟨d, rfl, rfl, h1, h2, hk, hbel⟩ := hrel
    have c0 := hk.cell_ 0 rfl
    have c1 := hk.cell_ 1 rfl
    have c2 := hk.cell_ 2 rfl
    have c3 := hk.cell_ 3 rfl
    have c4 := hk.cell_ 4 rfl
    have c5 := hk.cell_ 5 rfl
    by_cases hlt : 1440 * d < t
    · have hE := opnd_eq hv (d := d) (f := f) (t := t) (by omega) (by omega) hft
      have hm1 := oB_mono hv (t := f) (u := min t (max f (1440 * d))) (by omega)
      have hm2 := oB_mono hv (t := min t (max f (1440 * d))) (u := min t (1440 * d + 1440)) (by omega)
      have hm3 := oB_mono hv (t := min t (1440 * d + 1440)) (u := t) (by omega)
      rw [show max f (1440 * d) = min t (max f (1440 * d)) by omega] at hE
      have HE := hide hE
      have HN := hide (show min t (max f (1440 * (d + 1))) = min t (1440 * d + 1440) by omega)
      clear hE
      generalize min t (max f (1440 * d)) = A at *
      generalize min t (1440 * d + 1440) = A' at *
      go_wp2_with fail
      refine (opened_any s d f t _ (hS.on hbel) hv (by omega) (by omega) (by omega) (by omega) (by omega) (by omega)).mono ?_
      rintro e w3 ⟨rfl, hb⟩
      have hb3 := hbel.trans (hb.mono hbel.size)
      have hk3 := hk.below hb hk.lt
      rw [HE.out]
      go_wp2_with fail
      go_roundw
      case rel => exact ⟨d + 1, by rw [HN.out]; go_num, by go_num, by omega, by omega, hk3, hb3⟩
      case measure => simp [intOf]; omega
    · rw [show min t (max f (1440 * d)) = t by omega]
      go_wp2_with fail
      go_ret
      exact ⟨rfl, hbel⟩

theorem refAfter_any (s : Sh) (t m : Int) (w : World) (hS : ShAt w w.heap.size s) (hv : VShop s.p) (h0 : 0 ≤ t) (ht : t ≤ 10000000000) (hm : 0 ≤ m) (hm' : m ≤ 10000000) :
    Calls Try.prog 24 #[.agg #[.int .i64 s.p.op, .int .i64 s.p.cl, .slice s.aH s.p.hol.length s.cH, .int .i64 s.p.mach, .slice s.aS s.p.setup.length s.cS, .slice s.aJ s.p.jobs.length s.cJ], .int .i64 t, .int .i64 m] w fun e w' => e = .returned (.int .i64 (afterF s.p t m)) ∧ Below w.heap.size w w' := by
  have v1 := hv.op0
  have v2 := hv.opcl
  have v3 := hv.cl
  have v4 := hv.holn
  have hk := Blk.new w 25 #[.int .i64 s.p.op, .int .i64 s.p.cl, .slice s.aH s.p.hol.length s.cH, .int .i64 s.p.mach, .slice s.aS s.p.setup.length s.cS, .slice s.aJ s.p.jobs.length s.cJ]
  have hw := (Below.refl w.heap.size w).alloc (Nat.le_refl _) (.cells #[.int .i64 s.p.op, .int .i64 s.p.cl, .slice s.aH s.p.hol.length s.cH, .int .i64 s.p.mach, .slice s.aS s.p.setup.length s.cS, .slice s.aJ s.p.jobs.length s.cJ] 25)
  by_cases hm0 : m = 0
  · subst hm0
    go_enter Try.func24, Try.ntmps24
    go_wp2_with fail
    go_ret
    exact ⟨ret_int (after_zero _ _).symm, hw⟩
  · have hm0b : (m == 0) = false := by simpa using hm0
    obtain ⟨ha1, ha2, ha3⟩ := after_is hv h0 (m := m) (by omega)
    have hfb := far_bd hv h0 hm (by omega)
    generalize hH : ((oB s.p t + m) / (s.p.cl - s.p.op) + s.p.hol.length + 2) * 1440 = H at *
    clear hH
    go_enter Try.func24, Try.ntmps24
    go_wp2_with fail
    go_loopw [7, 2] (fun x y wr => ∃ d k : Int, x = .int .i64 d ∧ y = .int .i64 k ∧ t / 1440 ≤ d ∧ 1 ≤ k ∧ k ≤ m ∧ oB s.p t + m = oB s.p (max t (1440 * d)) + k ∧ Blk wr w.heap.size 25 #[.int .i64 s.p.op, .int .i64 s.p.cl, .slice s.aH s.p.hol.length s.cH, .int .i64 s.p.mach, .slice s.aS s.p.setup.length s.cS, .slice s.aJ s.p.jobs.length s.cJ] ∧ Below w.heap.size w wr) (fun x _ _ => (H - intOf x).toNat)
    case atStart => exact ⟨t / 1440, m, rfl, rfl, Int.le_refl _, by omega, Int.le_refl _, by rw [show max t (1440 * (t / 1440)) = t by omega], hk, hw⟩
    case round =>
      clear hk hw
      obtain ⟨d, k, rfl, rfl, h1, h2, h3, h4, hk, hbel⟩ := hrel
      have c0 := hk.cell_ 0 rfl
      have c1 := hk.cell_ 1 rfl
      have c2 := hk.cell_ 2 rfl
      have c3 := hk.cell_ 3 rfl
      have c4 := hk.cell_ 4 rfl
      have c5 := hk.cell_ 5 rfl
      have hdA : 1440 * d ≤ afterF s.p t m := by
        rcases Int.lt_or_le (afterF s.p t m) (max t (1440 * d)) with h | h
        · have := (oB_mono hv (t := afterF s.p t m) (u := max t (1440 * d)) (by omega)).1
          have := ha1.1
          omega
        · omega
      have hE := opnd_eq hv (d := d) (f := t) (t := 1440 * (d + 1)) (by omega) (by omega) (by omega)
      have H4 := hide h4
      have HA := hide ha1
      rw [show min (1440 * (d + 1)) (1440 * d + 1440) = max t (1440 * (d + 1)) by omega] at hE
      have HE := hide hE
      clear h4 hE
      go_wp2_with fail
      refine (opened_any s d t (1440 * (d + 1)) _ (hS.on hbel) hv (by omega) (by omega) (by omega) (by omega) (by omega) (by omega)).mono ?_
      rintro e w3 ⟨rfl, hb⟩
      have hb3 := hbel.trans (hb.mono hbel.size)
      have hk3 := hk.below hb hk.lt
      have c0 := hk3.cell_ 0 rfl
      by_cases hn : k ≤ opnd s.p d t (1440 * (d + 1))
      · have hR := (after_eq hm0 (after_day hv h2 (by omega) H4.out hn)).symm
        have HR := hide hR
        clear hR
        by_cases hx : t < 1440 * d + s.p.op
        · go_wp2_with fail
          go_ret
          exact ⟨ret_int (by have h9 := HR.out; omega), hb3⟩
        · go_wp2_with fail
          go_ret
          exact ⟨ret_int (by have h9 := HR.out; omega), hb3⟩
      · have hm1 := oB_mono hv (t := max t (1440 * d)) (u := max t (1440 * (d + 1))) (by omega)
        have hopn : opnd s.p d t (1440 * (d + 1)) = oB s.p (max t (1440 * (d + 1))) - oB s.p (max t (1440 * d)) := HE.out
        have HN := hide (show oB s.p t + m = oB s.p (max t (1440 * (d + 1))) + (k - opnd s.p d t (1440 * (d + 1))) by have := H4.out; omega)
        have hop : 0 ≤ opnd s.p d t (1440 * (d + 1)) := by omega
        clear hopn hm1
        generalize opnd s.p d t (1440 * (d + 1)) = N at *
        go_wp2_with fail
        go_roundw
        case rel => exact ⟨d + 1, k - N, rfl, rfl, by omega, by omega, by omega, HN.out, hk3, hb3⟩
        case measure => simp [intOf]; omega
end Go.Proofs.Ytcpnfcnobnjhdaa
