/- Measures of the reference: the walk. -/
import Derived.Test.YtfhlopegmfdkpaaNDue3
namespace Go.Proofs.Ytfhlopegmfdkpaa
open Go Go.RowKit
set_option maxRecDepth 100000 in
set_option maxHeartbeats 4000000 in
theorem refMeasures_any (k0 k1 k2 k3 side : Int) (A : Option Addr) (c : Nat) (ms : List Ms) (w : World) (hS : Slc Ms.enc 2 w w.heap.size A ms) (hl : ms.length ≤ 1000) :
    Calls Try.prog 87 #[.agg #[.int .i64 k0, .int .i64 k1, .int .i64 k2, .int .i64 k3], .int .i64 side, .slice A ms.length c] w fun e w' => e = .returned (.bool (measB k0 k1 k2 k3 side ms)) ∧ Below w.heap.size w w' := by
  have hb := Blk.new w 60 #[.int .i64 k0, .int .i64 k1, .int .i64 k2, .int .i64 k3]
  have hB := (Below.refl w.heap.size w).alloc (Nat.le_refl _) (.cells #[.int .i64 k0, .int .i64 k1, .int .i64 k2, .int .i64 k3] 60)
  cases hs : inB 0 side 3
  case false =>
    have HV := hide (meas_side (k0 := k0) (k1 := k1) (k2 := k2) (k3 := k3) (ms := ms) hs)
    go_enter Try.func87, Try.ntmps87
    go_wp2_with fail
    generalize w.alloc (.cells #[.int .i64 k0, .int .i64 k1, .int .i64 k2, .int .i64 k3] 60) = W at *
    refine (rwithin_is 0 side 3 _ hs).mono ?_
    rintro e w' ⟨rfl, rfl⟩
    clear hs
    go_wp2_with fail
    go_ret
    exact ⟨ret_bool HV.out.symm, hB⟩
  by_cases hl1 : (ms.length : Int) < 1
  · have HV := hide (meas_len (k0 := k0) (k1 := k1) (k2 := k2) (k3 := k3) (side := side) (ms := ms) (by omega))
    go_enter Try.func87, Try.ntmps87
    go_wp2_with fail
    generalize w.alloc (.cells #[.int .i64 k0, .int .i64 k1, .int .i64 k2, .int .i64 k3] 60) = W at *
    refine (rwithin_is 0 side 3 _ hs).mono ?_
    rintro e w' ⟨rfl, rfl⟩
    clear hs
    go_wp2_with fail
    go_ret
    exact ⟨ret_bool HV.out.symm, hB⟩
  by_cases hl2 : (50 : Int) < (ms.length : Int)
  · have HV := hide (meas_len (k0 := k0) (k1 := k1) (k2 := k2) (k3 := k3) (side := side) (ms := ms) (by omega))
    go_enter Try.func87, Try.ntmps87
    go_wp2_with fail
    generalize w.alloc (.cells #[.int .i64 k0, .int .i64 k1, .int .i64 k2, .int .i64 k3] 60) = W at *
    refine (rwithin_is 0 side 3 _ hs).mono ?_
    rintro e w' ⟨rfl, rfl⟩
    clear hs
    go_wp2_with fail
    go_ret
    exact ⟨ret_bool HV.out.symm, hB⟩
  have HM := hide (meas_is (k0 := k0) (k1 := k1) (k2 := k2) (k3 := k3) (ms := ms) hs (by omega))
  go_enter Try.func87, Try.ntmps87
  go_wp2_with fail
  generalize w.alloc (.cells #[.int .i64 k0, .int .i64 k1, .int .i64 k2, .int .i64 k3] 60) = W at *
  refine (rwithin_is 0 side 3 _ hs).mono ?_
  rintro e w' ⟨rfl, rfl⟩
  clear hs
  have c0 := hb.cell_ 0 rfl
  have c1 := hb.cell_ 1 rfl
  have c2 := hb.cell_ 2 rfl
  have c3 := hb.cell_ 3 rfl
  go_wp2_with fail
  go_loopw [7] (fun y W' => ∃ (i : Nat), y = .int .i64 i ∧ i ≤ 4 ∧ Hid (kR k0 k1 k2 k3 0 = kR k0 k1 k2 k3 i) ∧ W = W') (fun y _ => 4 - (intOf y).toNat)
  case atStart => exact ⟨0, rfl, by omega, hide rfl, rfl⟩
  case round =>
    obtain ⟨i, rfl, hi, HR, rfl⟩ := hrel
    obtain rfl | rfl | rfl | rfl | rfl : i = 0 ∨ i = 1 ∨ i = 2 ∨ i = 3 ∨ i = 4 := by omega
    · cases hk : inB 0 k0 1000
      · have HV : Hid (measB k0 k1 k2 k3 side ms = false) := by show _ = _; rw [HM.out, HR.out, kR_step (k := k0) rfl, hk]; rfl
        go_wp2_with fail
        refine (rwithin_is 0 k0 1000 _ hk).mono ?_
        rintro e w' ⟨rfl, rfl⟩
        clear hk
        go_wp2_with fail
        go_ret
        exact ⟨ret_bool HV.out.symm, hB⟩
      · have HR2 : Hid (kR k0 k1 k2 k3 0 = kR k0 k1 k2 k3 (0 + 1)) := by show _ = _; rw [HR.out, kR_step (k := k0) rfl, hk, Bool.true_and]
        go_wp2_with fail
        refine (rwithin_is 0 k0 1000 _ hk).mono ?_
        rintro e w' ⟨rfl, rfl⟩
        clear hk
        go_wp2_with fail
        go_roundw
        case rel => exact ⟨0 + 1, by go_num, by omega, HR2, by first | rfl | trivial⟩
        case measure => simp [intOf]
    · cases hk : inB 0 k1 1000
      · have HV : Hid (measB k0 k1 k2 k3 side ms = false) := by show _ = _; rw [HM.out, HR.out, kR_step (k := k1) rfl, hk]; rfl
        go_wp2_with fail
        refine (rwithin_is 0 k1 1000 _ hk).mono ?_
        rintro e w' ⟨rfl, rfl⟩
        clear hk
        go_wp2_with fail
        go_ret
        exact ⟨ret_bool HV.out.symm, hB⟩
      · have HR2 : Hid (kR k0 k1 k2 k3 0 = kR k0 k1 k2 k3 (1 + 1)) := by show _ = _; rw [HR.out, kR_step (k := k1) rfl, hk, Bool.true_and]
        go_wp2_with fail
        refine (rwithin_is 0 k1 1000 _ hk).mono ?_
        rintro e w' ⟨rfl, rfl⟩
        clear hk
        go_wp2_with fail
        go_roundw
        case rel => exact ⟨1 + 1, by go_num, by omega, HR2, by first | rfl | trivial⟩
        case measure => simp [intOf]
    · cases hk : inB 0 k2 1000
      · have HV : Hid (measB k0 k1 k2 k3 side ms = false) := by show _ = _; rw [HM.out, HR.out, kR_step (k := k2) rfl, hk]; rfl
        go_wp2_with fail
        refine (rwithin_is 0 k2 1000 _ hk).mono ?_
        rintro e w' ⟨rfl, rfl⟩
        clear hk
        go_wp2_with fail
        go_ret
        exact ⟨ret_bool HV.out.symm, hB⟩
      · have HR2 : Hid (kR k0 k1 k2 k3 0 = kR k0 k1 k2 k3 (2 + 1)) := by show _ = _; rw [HR.out, kR_step (k := k2) rfl, hk, Bool.true_and]
        go_wp2_with fail
        refine (rwithin_is 0 k2 1000 _ hk).mono ?_
        rintro e w' ⟨rfl, rfl⟩
        clear hk
        go_wp2_with fail
        go_roundw
        case rel => exact ⟨2 + 1, by go_num, by omega, HR2, by first | rfl | trivial⟩
        case measure => simp [intOf]
    · cases hk : inB 0 k3 1000
      · have HV : Hid (measB k0 k1 k2 k3 side ms = false) := by show _ = _; rw [HM.out, HR.out, kR_step (k := k3) rfl, hk]; rfl
        go_wp2_with fail
        refine (rwithin_is 0 k3 1000 _ hk).mono ?_
        rintro e w' ⟨rfl, rfl⟩
        clear hk
        go_wp2_with fail
        go_ret
        exact ⟨ret_bool HV.out.symm, hB⟩
      · have HR2 : Hid (kR k0 k1 k2 k3 0 = kR k0 k1 k2 k3 (3 + 1)) := by show _ = _; rw [HR.out, kR_step (k := k3) rfl, hk, Bool.true_and]
        go_wp2_with fail
        refine (rwithin_is 0 k3 1000 _ hk).mono ?_
        rintro e w' ⟨rfl, rfl⟩
        clear hk
        go_wp2_with fail
        go_roundw
        case rel => exact ⟨3 + 1, by go_num, by omega, HR2, by first | rfl | trivial⟩
        case measure => simp [intOf]
    · have HMM : Hid (measB k0 k1 k2 k3 side ms = msR ms 0) := by show _ = _; rw [HM.out, HR.out]; rfl
      clear HM HR c0 c1 c2 c3 hb
      rw [show ((4 : Nat) : Int) = 4 from rfl]
      go_wp2_with fail
      go_loopw [8] (fun y W => ∃ (i : Nat), y = .int .i64 i ∧ i ≤ ms.length ∧ Hid (msR ms 0 = msR ms i) ∧ Below w.heap.size w W) (fun y _ => ms.length - (intOf y).toNat)
      case atStart => exact ⟨0, rfl, Nat.zero_le _, hide rfl, hB⟩
      case round =>
        clear hB
        obtain ⟨W, rfl⟩ : ∃ W : World, W = wr := ⟨_, rfl⟩
        obtain ⟨i, rfl, hi, HR, hB⟩ := hrel
        by_cases hlt : i < ms.length
        · obtain ⟨x, b, off, hx, hA, _, d0, d1⟩ := ms_at (hS.below hB) hlt
          have hii : (i : Int) < (ms.length : Int) := by omega
          have HX := hide hx
          have hi50 : i ≤ 50 := by omega
          clear hx
          subst hA
          cases q1 : inB 0 x.day 100000
          case false =>
            have Q1 := hide q1
            obtain ⟨v2, q2⟩ : ∃ v, inB 0 x.r 100000 = v := ⟨_, rfl⟩
            have Q2 := hide q2
            clear q1 q2
            have HV : Hid (measB k0 k1 k2 k3 side ms = false) := by show _ = _; rw [HMM.out, HR.out, msR_step HX.out, (show stepB ms i x = false by unfold stepB; rw [Q1.out]; rfl)]; rfl
            go_wp2_with fail
            refine wp_region_quiet (C := fun w' => ∃ u : Since W, w' = u.w) (by kernel_rfl) (by kernel_rfl) (Since.start W) ?_
            dsimp only
            have y_d0 := Since.cell d0
            have y_d1 := Since.cell d1
            repeat (go_big_quiet_step ((first | (go_at_call 88; with_reducible exact Since.calls_same (rwithin_is 0 x.day 100000 _ Q1.out)) | (go_at_call 88; with_reducible exact Since.calls_same (rwithin_is 0 x.r 100000 _ Q2.out)))))
            refine wpQuiet_nil ?_
            rintro W ⟨⟨_, hb⟩, rfl⟩
            try dsimp only at hb ⊢
            replace d0 : W.cell? _ = _ := y_d0 ⟨W, hb⟩
            replace d1 : W.cell? _ = _ := y_d1 ⟨W, hb⟩
            clear y_d0 y_d1
            replace hB := hB.trans (hb.mono hB.size)
            clear hb
            go_wp2_with fail
            go_ret
            exact ⟨ret_bool HV.out.symm, hB⟩
          case true =>
            have Q1 := hide q1
            clear q1
            cases q2 : inB 0 x.r 100000
            case false =>
              have Q2 := hide q2
              clear q2
              have HV : Hid (measB k0 k1 k2 k3 side ms = false) := by show _ = _; rw [HMM.out, HR.out, msR_step HX.out, (show stepB ms i x = false by unfold stepB; rw [Q1.out, Q2.out]; rfl)]; rfl
              go_wp2_with fail
              refine wp_region_quiet (C := fun w' => ∃ u : Since W, w' = u.w) (by kernel_rfl) (by kernel_rfl) (Since.start W) ?_
              dsimp only
              have y_d0 := Since.cell d0
              have y_d1 := Since.cell d1
              repeat (go_big_quiet_step ((first | (go_at_call 88; with_reducible exact Since.calls_same (rwithin_is 0 x.day 100000 _ Q1.out)) | (go_at_call 88; with_reducible exact Since.calls_same (rwithin_is 0 x.r 100000 _ Q2.out)))))
              refine wpQuiet_nil ?_
              rintro W ⟨⟨_, hb⟩, rfl⟩
              try dsimp only at hb ⊢
              replace d0 : W.cell? _ = _ := y_d0 ⟨W, hb⟩
              replace d1 : W.cell? _ = _ := y_d1 ⟨W, hb⟩
              clear y_d0 y_d1
              replace hB := hB.trans (hb.mono hB.size)
              clear hb
              go_wp2_with fail
              go_ret
              exact ⟨ret_bool HV.out.symm, hB⟩
            case true =>
              have Q2 := hide q2
              clear q2
              rcases i with _ | i
              · have HR2 : Hid (msR ms 0 = msR ms (0 + 1)) := by
                  show _ = _
                  rw [msR_step HX.out, show stepB ms 0 x = true by unfold stepB; rw [Q1.out, Q2.out]; rfl, Bool.true_and]
                simp only [Nat.zero_mul, Nat.add_zero] at d0 d1
                go_wp2_with fail
                refine wp_region_quiet (C := fun w' => ∃ u : Since W, w' = u.w) (by kernel_rfl) (by kernel_rfl) (Since.start W) ?_
                dsimp only
                have y_d0 := Since.cell d0
                have y_d1 := Since.cell d1
                repeat (go_big_quiet_step ((first | (go_at_call 88; with_reducible exact Since.calls_same (rwithin_is 0 x.day 100000 _ Q1.out)) | (go_at_call 88; with_reducible exact Since.calls_same (rwithin_is 0 x.r 100000 _ Q2.out)))))
                refine wpQuiet_nil ?_
                rintro W ⟨⟨_, hb⟩, rfl⟩
                try dsimp only at hb ⊢
                replace d0 : W.cell? _ = _ := y_d0 ⟨W, hb⟩
                replace d1 : W.cell? _ = _ := y_d1 ⟨W, hb⟩
                clear y_d0 y_d1
                replace hB := hB.trans (hb.mono hB.size)
                clear hb
                go_wp2_with fail
                go_roundw
                case rel => exact ⟨0 + 1, by go_num, by omega, HR2, hB⟩
                case measure => simp [intOf]; omega
              · obtain ⟨p, b', off', hp, hA', _, d5, _⟩ := ms_at (hS.below hB) (show i < ms.length by omega)
                obtain ⟨rfl, rfl⟩ : b = b' ∧ off = off' := by simpa using hA'
                have e7 : IntKind.i64.wrap (i : Int) = (i : Int) := IntWalk.i64_in _ (by omega)
                have g6 : decide ((i : Int) + 1 > 0) = true := decide_eq_true (by omega)
                have g7 : decide ((0 : Int) < (i : Int) + 1) = true := decide_eq_true (by omega)
                have g8 : (i : Int) < (ms.length : Int) := by omega
                have HPD : Hid (prevD ms (i + 1) = some p.day) := by show (ms[i]?).map Ms.day = _; rw [hp]; rfl
                clear hp
                by_cases hd : p.day < x.day
                · have g9 : decide (x.day ≤ p.day) = false := decide_eq_false (by omega)
                  have HR2 : Hid (msR ms 0 = msR ms (i + 1 + 1)) := by
                    show _ = _
                    rw [HR.out, msR_step HX.out, show stepB ms (i + 1) x = true by unfold stepB; rw [Q1.out, Q2.out, HPD.out]; exact decide_eq_true hd, Bool.true_and]
                  go_wp2_with fail
                  refine wp_region_quiet (C := fun w' => ∃ u : Since W, w' = u.w) (by kernel_rfl) (by kernel_rfl) (Since.start W) ?_
                  dsimp only
                  have y_d0 := Since.cell d0
                  have y_d1 := Since.cell d1
                  have y_d5 := Since.cell d5
                  repeat (go_big_quiet_step ((first | (go_at_call 88; with_reducible exact Since.calls_same (rwithin_is 0 x.day 100000 _ Q1.out)) | (go_at_call 88; with_reducible exact Since.calls_same (rwithin_is 0 x.r 100000 _ Q2.out)))))
                  refine wpQuiet_nil ?_
                  rintro W ⟨⟨_, hb⟩, rfl⟩
                  try dsimp only at hb ⊢
                  replace d0 : W.cell? _ = _ := y_d0 ⟨W, hb⟩
                  replace d1 : W.cell? _ = _ := y_d1 ⟨W, hb⟩
                  replace d5 : W.cell? _ = _ := y_d5 ⟨W, hb⟩
                  clear y_d0 y_d1 y_d5
                  replace hB := hB.trans (hb.mono hB.size)
                  clear hb
                  go_wp2_with fail
                  go_roundw
                  case rel => exact ⟨i + 1 + 1, by go_num, by omega, HR2, hB⟩
                  case measure => simp [intOf]; omega
                · have g9 : decide (x.day ≤ p.day) = true := decide_eq_true (by omega)
                  have HV : Hid (measB k0 k1 k2 k3 side ms = false) := by show _ = _; rw [HMM.out, HR.out, msR_step HX.out, (show stepB ms (i + 1) x = false by unfold stepB; rw [Q1.out, Q2.out, HPD.out]; exact decide_eq_false hd)]; rfl
                  go_wp2_with fail
                  refine wp_region_quiet (C := fun w' => ∃ u : Since W, w' = u.w) (by kernel_rfl) (by kernel_rfl) (Since.start W) ?_
                  dsimp only
                  have y_d0 := Since.cell d0
                  have y_d1 := Since.cell d1
                  have y_d5 := Since.cell d5
                  repeat (go_big_quiet_step ((first | (go_at_call 88; with_reducible exact Since.calls_same (rwithin_is 0 x.day 100000 _ Q1.out)) | (go_at_call 88; with_reducible exact Since.calls_same (rwithin_is 0 x.r 100000 _ Q2.out)))))
                  refine wpQuiet_nil ?_
                  rintro W ⟨⟨_, hb⟩, rfl⟩
                  try dsimp only at hb ⊢
                  replace d0 : W.cell? _ = _ := y_d0 ⟨W, hb⟩
                  replace d1 : W.cell? _ = _ := y_d1 ⟨W, hb⟩
                  replace d5 : W.cell? _ = _ := y_d5 ⟨W, hb⟩
                  clear y_d0 y_d1 y_d5
                  replace hB := hB.trans (hb.mono hB.size)
                  clear hb
                  go_wp2_with fail
                  go_ret
                  exact ⟨ret_bool HV.out.symm, hB⟩
        · obtain rfl : i = ms.length := by omega
          have HV : Hid (measB k0 k1 k2 k3 side ms = true) := by show _ = _; rw [HMM.out, HR.out, msR_end]
          go_wp2_with fail
          go_ret
          exact ⟨ret_bool HV.out.symm, hB⟩
end Go.Proofs.Ytfhlopegmfdkpaa
