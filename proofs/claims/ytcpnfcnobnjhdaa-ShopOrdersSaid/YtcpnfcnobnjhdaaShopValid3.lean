/- Which shops are valid: Valid of the specification, the walk. -/
import Derived.Test.YtcpnfcnobnjhdaaShopValid2
namespace Go.Proofs.Ytcpnfcnobnjhdaa
open Go.RowKit

set_option maxHeartbeats 4000000 in
set_option maxRecDepth 100000 in
theorem refValid_any (s : Sh) (w : World) (hS : ShAt w w.heap.size s) (m1 : s.p.hol.length ≤ 9223372036854775807) (m2 : s.p.setup.length ≤ 9223372036854775807) (m3 : s.p.jobs.length ≤ 9223372036854775807) (m4 : ∀ l ∈ s.p.jobs, l.length ≤ 9223372036854775807) :
    Calls Try.prog 19 #[.agg #[.int .i64 s.p.op, .int .i64 s.p.cl, .slice s.aH s.p.hol.length s.cH, .int .i64 s.p.mach, .slice s.aS s.p.setup.length s.cS, .slice s.aJ s.p.jobs.length s.cJ]] w fun e w' => e = .returned (.bool (validShop s.p)) ∧ Below w.heap.size w w' := by
  obtain ⟨p, aH, cH, aS, cS, aJ, cJ⟩ := s
  obtain ⟨hS1, hS2, hS3⟩ := hS
  dsimp only at *
  have HV : Hid (validShop p = (headOk p && holsOk (-1) p.hol && p.setup.all (fun n => inB 0 n 1000) && p.jobs.all (jobOk p))) := rfl
  have HH : Hid (headOk p = (decide (0 ≤ p.op) && decide (p.op < p.cl) && decide (p.cl ≤ 1440) && decide (p.hol.length ≤ 400) && inB 1 p.mach 6 && decide ((p.setup.length : Int) = p.mach) && decide (p.jobs.length ≤ 12))) := rfl
  have H4 := hide m4
  clear m4
  by_cases g1 : p.op < 0
  · go_enter Try.func19, Try.ntmps19
    go_wp2_with (go_at_call 48; refine (refWithin_any _ _ _ _).mono ?_; rintro e w' ⟨rfl, rfl⟩)
    go_ret
    have : ¬ (0 ≤ p.op) := by omega
    exact ⟨ret_bool (by rw [HV.out, HH.out]; simp [this]), (Below.refl _ _).alloc (Nat.le_refl _) _⟩
  by_cases g2 : p.cl ≤ p.op
  · go_enter Try.func19, Try.ntmps19
    go_wp2_with (go_at_call 48; refine (refWithin_any _ _ _ _).mono ?_; rintro e w' ⟨rfl, rfl⟩)
    go_ret
    have : ¬ (p.op < p.cl) := by omega
    exact ⟨ret_bool (by rw [HV.out, HH.out]; simp [this]), (Below.refl _ _).alloc (Nat.le_refl _) _⟩
  by_cases g3 : 1440 < p.cl
  · go_enter Try.func19, Try.ntmps19
    go_wp2_with (go_at_call 48; refine (refWithin_any _ _ _ _).mono ?_; rintro e w' ⟨rfl, rfl⟩)
    go_ret
    have : ¬ (p.cl ≤ 1440) := by omega
    exact ⟨ret_bool (by rw [HV.out, HH.out]; simp [this]), (Below.refl _ _).alloc (Nat.le_refl _) _⟩
  by_cases g4 : 400 < p.hol.length
  · go_enter Try.func19, Try.ntmps19
    go_wp2_with (go_at_call 48; refine (refWithin_any _ _ _ _).mono ?_; rintro e w' ⟨rfl, rfl⟩)
    go_ret
    have : ¬ (p.hol.length ≤ 400) := by omega
    exact ⟨ret_bool (by rw [HV.out, HH.out]; simp [this]), (Below.refl _ _).alloc (Nat.le_refl _) _⟩
  cases g5 : inB 1 p.mach 6
  · go_enter Try.func19, Try.ntmps19
    go_wp2_with (go_at_call 48; refine (refWithin_any _ _ _ _).mono ?_; rintro e w' ⟨rfl, rfl⟩)
    go_ret
    skip
    exact ⟨ret_bool (by rw [HV.out, HH.out]; simp [g5]), (Below.refl _ _).alloc (Nat.le_refl _) _⟩
  by_cases g6 : ((p.setup.length : Int) != p.mach) = true
  · go_enter Try.func19, Try.ntmps19
    go_wp2_with (go_at_call 48; refine (refWithin_any _ _ _ _).mono ?_; rintro e w' ⟨rfl, rfl⟩)
    go_ret
    have : ¬ ((p.setup.length : Int) = p.mach) := by simpa using g6
    exact ⟨ret_bool (by rw [HV.out, HH.out]; simp [this]), (Below.refl _ _).alloc (Nat.le_refl _) _⟩
  by_cases g7 : 12 < p.jobs.length
  · go_enter Try.func19, Try.ntmps19
    go_wp2_with (go_at_call 48; refine (refWithin_any _ _ _ _).mono ?_; rintro e w' ⟨rfl, rfl⟩)
    go_ret
    have : ¬ (p.jobs.length ≤ 12) := by omega
    exact ⟨ret_bool (by rw [HV.out, HH.out]; simp [this]), (Below.refl _ _).alloc (Nat.le_refl _) _⟩
  have g5' := inB_iff.1 g5
  have g6' : ((p.setup.length : Int) != p.mach) = false := by simpa using g6
  have hv : validShop p = (holsOk (-1) p.hol && p.setup.all (fun n => inB 0 n 1000) && p.jobs.all (jobOk p)) := by
    have e6 : (p.setup.length : Int) = p.mach := by simpa using g6
    have a1 : 0 ≤ p.op := by omega
    have a2 : p.op < p.cl := by omega
    have a3 : p.cl ≤ 1440 := by omega
    have a4 : p.hol.length ≤ 400 := by omega
    have a7 : p.jobs.length ≤ 12 := by omega
    rw [HV.out, HH.out, g5]; simp [e6, a1, a2, a3, a4, a7]
  have HV2 := hide hv
  obtain ⟨g51, g52⟩ := g5'
  clear hv g6
  go_enter Try.func19, Try.ntmps19
  go_wp2_with (go_at_call 48; refine (refWithin_any _ _ _ _).mono ?_; rintro e w' ⟨rfl, rfl⟩)
  go_loopw [3] (fun i wr => ∃ (k : Nat) (prev : Int), k ≤ p.hol.length ∧ i = .int .i64 k ∧ holsOk (-1) p.hol = holsOk prev (p.hol.drop k) ∧ (∀ j, k = j + 1 → p.hol[j]? = some prev) ∧ (k = 0 → prev = -1) ∧ Blk wr w.heap.size 25 #[.int .i64 p.op, .int .i64 p.cl, .slice aH p.hol.length cH, .int .i64 p.mach, .slice aS p.setup.length cS, .slice aJ p.jobs.length cJ] ∧ Below w.heap.size w wr) (fun i _ => p.hol.length - (intOf i).toNat)
  case atStart => exact ⟨0, -1, Nat.zero_le _, rfl, rfl, fun j h => by omega, fun _ => rfl, Blk.new _ _ _, (Below.refl _ _).alloc (Nat.le_refl _) _⟩
  case round =>
    obtain ⟨k, prev, hk, rfl, hs, hp, hp0, hblk, hbel⟩ := hrel
    have HS := hide hs
    have c2 := hblk.cell_ 2 rfl
    have c4 := hblk.cell_ 4 rfl
    clear hs
    by_cases hlt : k < p.hol.length
    · obtain ⟨d, b, off, hx, hA, hb, hc⟩ := ints_at' (hS1.below hbel) hlt
      have HX := hide hx
      subst hA
      clear hx
      cases hd : inB 0 d 10000
      · go_wp2_with fail
        refine wp_region_quiet (C := fun w' => ∃ u : Since wr, w' = u.w) (by kernel_rfl) (by kernel_rfl) (Since.start wr) ?_
        dsimp only
        have y2 := Since.cell c2
        have yc := Since.cell hc
        skip
        repeat (go_big_quiet_step ((go_at_call 48; exact Since.calls_same (refWithin_any _ _ _ _))))
        refine wpQuiet_nil ?_
        rintro _ ⟨u, rfl⟩
        have hblk := hblk.below u.h hblk.lt
        have hbel := hbel.trans (u.h.mono hbel.size)
        go_wp2_with fail
        go_ret
        exact ⟨ret_bool (by rw [HV2.out, HS.out, holsOk_bad1 HX.out hd]; rfl), hbel⟩
      · rcases k with _ | j
        · have hpe := hp0 rfl
          have hd0 := (inB_iff.1 hd).1
          have HE := hide hpe
          clear hpe hp hp0
          rw [Nat.add_zero] at hc
          go_wp2_with fail
          refine wp_region_quiet (C := fun w' => ∃ u : Since wr, w' = u.w) (by kernel_rfl) (by kernel_rfl) (Since.start wr) ?_
          dsimp only
          have y2 := Since.cell c2
          have yc := Since.cell hc
          skip
          repeat (go_big_quiet_step ((go_at_call 48; exact Since.calls_same (refWithin_any _ _ _ _))))
          refine wpQuiet_nil ?_
          rintro _ ⟨u, rfl⟩
          have hblk := hblk.below u.h hblk.lt
          have hbel := hbel.trans (u.h.mono hbel.size)
          go_wp2_with fail
          go_roundw
          case rel => exact ⟨1, d, by omega, by go_num, by rw [HS.out]; exact holsOk_good HX.out hd (by rw [HE.out]; omega), (by intro j hj; have e : j = 0 := (by omega); rw [e]; exact HX.out), fun h => by omega, hblk, hbel⟩
          case measure => simp [intOf]; omega
        · have hpr := hp j rfl
          obtain ⟨d', b', off', hx', hA', hb', hc'⟩ := ints_at' (k := j) (hS1.below hbel) (by omega)
          obtain ⟨rfl, rfl⟩ : b = b' ∧ off = off' := by injection hA' with hA'; injection hA' with h1 h2; exact ⟨h1, h2⟩
          obtain rfl : d' = prev := by rw [hpr] at hx'; injection hx' with hx'; exact hx'.symm
          clear hp hp0 hpr hx' hA'
          by_cases hlt2 : d ≤ d'
          · go_wp2_with fail
            refine wp_region_quiet (C := fun w' => ∃ u : Since wr, w' = u.w) (by kernel_rfl) (by kernel_rfl) (Since.start wr) ?_
            dsimp only
            have y2 := Since.cell c2
            have yc := Since.cell hc
            have yc' := Since.cell hc'
            repeat (go_big_quiet_step ((go_at_call 48; exact Since.calls_same (refWithin_any _ _ _ _))))
            refine wpQuiet_nil ?_
            rintro _ ⟨u, rfl⟩
            have hblk := hblk.below u.h hblk.lt
            have hbel := hbel.trans (u.h.mono hbel.size)
            go_wp2_with fail
            go_ret
            exact ⟨ret_bool (by rw [HV2.out, HS.out, holsOk_bad2 HX.out hlt2]; rfl), hbel⟩
          · go_wp2_with fail
            refine wp_region_quiet (C := fun w' => ∃ u : Since wr, w' = u.w) (by kernel_rfl) (by kernel_rfl) (Since.start wr) ?_
            dsimp only
            have y2 := Since.cell c2
            have yc := Since.cell hc
            have yc' := Since.cell hc'
            repeat (go_big_quiet_step ((go_at_call 48; exact Since.calls_same (refWithin_any _ _ _ _))))
            refine wpQuiet_nil ?_
            rintro _ ⟨u, rfl⟩
            have hblk := hblk.below u.h hblk.lt
            have hbel := hbel.trans (u.h.mono hbel.size)
            go_wp2_with fail
            go_roundw
            case rel => exact ⟨j + 1 + 1, d, by omega, by go_num, by rw [HS.out]; exact holsOk_good HX.out hd (by omega), (by intro j' hj; have e : j' = j + 1 := (by omega); rw [e]; exact HX.out), fun h => by omega, hblk, hbel⟩
            case measure => simp [intOf]; omega
    · obtain rfl : k = p.hol.length := by omega
      have h1 : holsOk (-1) p.hol = true := by rw [HS.out, nomore]; rfl
      have HV3 := hide (show validShop p = (p.setup.all (fun n => inB 0 n 1000) && p.jobs.all (jobOk p)) by rw [HV2.out, h1]; rfl)
      clear h1 hp hp0
      go_wp2_with fail
      go_loopw [4] (fun i wr => ∃ (k : Nat), k ≤ p.setup.length ∧ i = .int .i64 k ∧ p.setup.all (fun n => inB 0 n 1000) = (p.setup.drop k).all (fun n => inB 0 n 1000) ∧ Blk wr w.heap.size 25 #[.int .i64 p.op, .int .i64 p.cl, .slice aH p.hol.length cH, .int .i64 p.mach, .slice aS p.setup.length cS, .slice aJ p.jobs.length cJ] ∧ Below w.heap.size w wr) (fun i _ => p.setup.length - (intOf i).toNat)
      case atStart => exact ⟨0, Nat.zero_le _, rfl, rfl, hblk, hbel⟩
      case round =>
        clear hblk hbel c4
        obtain ⟨k, hk, rfl, hs, hblk, hbel⟩ := hrel
        have HS2 := hide hs
        have c4 := hblk.cell_ 4 rfl
        have c5 := hblk.cell_ 5 rfl
        clear hs
        by_cases hlt : k < p.setup.length
        · obtain ⟨d, b, off, hx, hA, hb, hc⟩ := ints_at' (hS2.below hbel) hlt
          have HX := hide hx
          subst hA
          clear hx
          cases hd : inB 0 d 1000
          · go_wp2_with (go_at_call 48; refine (refWithin_any _ _ _ _).mono ?_; rintro e w' ⟨rfl, rfl⟩)
            go_ret
            exact ⟨ret_bool (by rw [HV3.out, HS2.out, all_drop HX.out, hd]; rfl), hbel⟩
          · go_wp2_with (go_at_call 48; refine (refWithin_any _ _ _ _).mono ?_; rintro e w' ⟨rfl, rfl⟩)
            go_roundw
            case rel => exact ⟨k + 1, by omega, by go_num, by rw [HS2.out, all_drop HX.out, hd]; rfl, hblk, hbel⟩
            case measure => simp [intOf]; omega
        · obtain rfl : k = p.setup.length := by omega
          have h1 : p.setup.all (fun n => inB 0 n 1000) = true := by rw [HS2.out, nomore]; rfl
          have HV4 := hide (show validShop p = p.jobs.all (jobOk p) by rw [HV3.out, h1]; rfl)
          clear h1
          go_wp2_with fail
          go_loopw [5] (fun i wr => ∃ (k : Nat), k ≤ p.jobs.length ∧ i = .int .i64 k ∧ p.jobs.all (jobOk p) = (p.jobs.drop k).all (jobOk p) ∧ Blk wr w.heap.size 25 #[.int .i64 p.op, .int .i64 p.cl, .slice aH p.hol.length cH, .int .i64 p.mach, .slice aS p.setup.length cS, .slice aJ p.jobs.length cJ] ∧ Below w.heap.size w wr) (fun i _ => p.jobs.length - (intOf i).toNat)
          case atStart => exact ⟨0, Nat.zero_le _, rfl, rfl, hblk, hbel⟩
          case round =>
            clear hblk hbel c5
            obtain ⟨k, hk, rfl, hs, hblk, hbel⟩ := hrel
            have HS3 := hide hs
            have c5 := hblk.cell_ 5 rfl
            clear hs
            by_cases hlt : k < p.jobs.length
            · obtain ⟨l, b, off, A', c', hx, hA, hb, hc, hSl⟩ := jobs_at (hS3.keep fun _ hp => hbel.cell hp) hlt
              have hl := H4.out l (List.mem_of_getElem? hx)
              have HX := hide hx
              subst hA
              clear hx
              have HJ : Hid (jobOk p l = (decide (l.length ≤ 8) && l.all (stepOk p))) := rfl
              by_cases h8 : 8 < l.length
              · go_wp2_with fail
                go_ret
                exact ⟨ret_bool (by rw [HV4.out, HS3.out, all_drop HX.out, HJ.out]; simp; omega), hbel⟩
              · have hJ1 : jobOk p l = l.all (stepOk p) := by rw [HJ.out]; simp; omega
                have HJ1 := hide hJ1
                clear hJ1
                obtain ⟨wo, rfl⟩ : ∃ wo : World, wo = wr := ⟨_, rfl⟩
                have hS1' := hS1.below hbel
                have hS2' := hS2.below hbel
                have hS3' := hS3.keep fun _ hp => hbel.cell hp
                have hSl' := hSl
                go_wp2_with fail
                go_loopw [7] (fun i wr => ∃ (q : Nat), q ≤ l.length ∧ i = .int .i64 q ∧ l.all (stepOk p) = (l.drop q).all (stepOk p) ∧ Blk wr w.heap.size 25 #[.int .i64 p.op, .int .i64 p.cl, .slice aH p.hol.length cH, .int .i64 p.mach, .slice aS p.setup.length cS, .slice (some ⟨b, off, none⟩) p.jobs.length cJ] ∧ Below wo.heap.size wo wr ∧ Below w.heap.size w wr) (fun i _ => l.length - (intOf i).toNat)
                case atStart => exact ⟨0, Nat.zero_le _, rfl, rfl, hblk, Below.refl _ _, hbel⟩
                case round =>
                  clear hblk c5
                  obtain ⟨q, hq, rfl, hs, hblk, hbo, hbel2⟩ := hrel
                  have HS4 := hide hs
                  clear hs
                  by_cases hlt2 : q < l.length
                  · obtain ⟨x, b2, off2, hx, hA2, hb2, e0, e1, e2, e3⟩ := steps_at ((hSl.more hbel.size).below hbo) hlt2
                    have HX2 := hide hx
                    subst hA2
                    clear hx
                    have hSh : ShAt wr wr.heap.size ⟨p, aH, cH, aS, cS, some ⟨b, off, none⟩, cJ⟩ := ⟨(hS1.below hbel2).more hbel2.size, (hS2.below hbel2).more hbel2.size, (hS3.keep fun _ hp => hbel2.cell hp).more hbel2.size⟩
                    have HSh := hide hSh
                    clear hSh
                    go_wp2_with fail
                    refine wp_region_quiet (C := fun w' => ∃ u : Since wr, w' = u.w) (by kernel_rfl) (by kernel_rfl) (Since.start wr) ?_
                    dsimp only
                    have y0 := Since.cell (hblk.cell_ 0 rfl)
                    have y1 := Since.cell (hblk.cell_ 1 rfl)
                    have y2 := Since.cell (hblk.cell_ 2 rfl)
                    have y3 := Since.cell (hblk.cell_ 3 rfl)
                    have y4 := Since.cell (hblk.cell_ 4 rfl)
                    have y5 := Since.cell (hblk.cell_ 5 rfl)
                    have z0 := Since.cell e0
                    have z1 := Since.cell e1
                    have z2 := Since.cell e2
                    have z3 := Since.cell e3
                    repeat (go_big_quiet_step ((go_at_call 49; exact Since.calls (refStep_any ⟨p, aH, cH, aS, cS, some ⟨b, off, none⟩, cJ⟩ x _ (by omega) (by omega) (by omega) (by omega) (by omega)))))
                    refine wpQuiet_nil ?_
                    rintro _ ⟨u, rfl⟩
                    have hb3 := hbel2.trans (u.h.mono hbel2.size)
                    cases hok : stepOk p x
                    · go_wp2
                      go_ret
                      exact ⟨ret_bool (by rw [HV4.out, HS3.out, all_drop HX.out, HJ1.out, HS4.out, all_drop HX2.out, hok]; rfl), hb3⟩
                    · go_wp2
                      go_roundw
                      case rel => exact ⟨q + 1, by omega, by go_num, by rw [HS4.out, all_drop HX2.out, hok]; rfl, hblk.below u.h hblk.lt, hbo.trans (u.h.mono hbo.size), hb3⟩
                      case measure => simp [intOf]; omega
                  · obtain rfl : q = l.length := by omega
                    have h1 : jobOk p l = true := by rw [HJ1.out, HS4.out, nomore]; rfl
                    have HA := hide h1
                    clear h1
                    go_wp2_with fail
                    go_roundw
                    case rel => exact ⟨k + 1, by omega, by go_num, by rw [HS3.out, all_drop HX.out, HA.out]; rfl, hblk, hbel2⟩
                    case measure => simp [intOf]; omega
            · obtain rfl : k = p.jobs.length := by omega
              go_wp2_with fail
              go_ret
              exact ⟨ret_bool (by rw [HV4.out, HS3.out, nomore]; rfl), hbel⟩
end Go.Proofs.Ytcpnfcnobnjhdaa
