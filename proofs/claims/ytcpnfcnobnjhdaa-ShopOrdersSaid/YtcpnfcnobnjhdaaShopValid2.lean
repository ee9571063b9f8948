/- Which shops are valid: Valid of both texts, the walks. -/
import Derived.Test.YtcpnfcnobnjhdaaShopValid
namespace Go.Proofs.Ytcpnfcnobnjhdaa
open Go.RowKit
theorem holsOk_bad1 {prev d : Int} {l : List Int} {k : Nat} (hk : l[k]? = some d) (h : inB 0 d 10000 = false) : holsOk prev (l.drop k) = false := by rw [holsOk_step hk, h]; rfl
theorem holsOk_bad2 {prev d : Int} {l : List Int} {k : Nat} (hk : l[k]? = some d) (h : d ≤ prev) : holsOk prev (l.drop k) = false := by
  rw [holsOk_step hk]
  have : decide (prev < d) = false := by simpa using h
  rw [this]; simp
theorem holsOk_good {prev d : Int} {l : List Int} {k : Nat} (hk : l[k]? = some d) (h : inB 0 d 10000 = true) (h' : prev < d) : holsOk prev (l.drop k) = holsOk d (l.drop (k + 1)) := by
  rw [holsOk_step hk, h]
  have : decide (prev < d) = true := by simpa using h'
  rw [this]; rfl

set_option maxHeartbeats 4000000 in
set_option maxRecDepth 100000 in
theorem valid_any (s : Sh) (w : World) (hS : ShAt w w.heap.size s) (m1 : s.p.hol.length ≤ 9223372036854775807) (m2 : s.p.setup.length ≤ 9223372036854775807) (m3 : s.p.jobs.length ≤ 9223372036854775807) (m4 : ∀ l ∈ s.p.jobs, l.length ≤ 9223372036854775807) :
    Calls Try.prog 47 #[.agg #[.int .i64 s.p.op, .int .i64 s.p.cl, .slice s.aH s.p.hol.length s.cH, .int .i64 s.p.mach, .slice s.aS s.p.setup.length s.cS, .slice s.aJ s.p.jobs.length s.cJ]] w fun e w' => e = .returned (.bool (validShop s.p)) ∧ Below w.heap.size w w' := by
  obtain ⟨p, aH, cH, aS, cS, aJ, cJ⟩ := s
  obtain ⟨hS1, hS2, hS3⟩ := hS
  dsimp only at *
  have HV : Hid (validShop p = (headOk p && holsOk (-1) p.hol && p.setup.all (fun n => inB 0 n 1000) && p.jobs.all (jobOk p))) := rfl
  have HH : Hid (headOk p = (decide (0 ≤ p.op) && decide (p.op < p.cl) && decide (p.cl ≤ 1440) && decide (p.hol.length ≤ 400) && inB 1 p.mach 6 && decide ((p.setup.length : Int) = p.mach) && decide (p.jobs.length ≤ 12))) := rfl
  have H4 := hide m4
  clear m4
  by_cases g1 : p.op < 0
  · go_enter Try.func47, Try.ntmps47
    go_wp2_with (go_at_call 50; refine (within_any _ _ _ _).mono ?_; rintro e w' ⟨rfl, rfl⟩)
    go_ret
    have : ¬ (0 ≤ p.op) := by omega
    exact ⟨ret_bool (by rw [HV.out, HH.out]; simp [this]), (Below.refl _ _).alloc (Nat.le_refl _) _⟩
  by_cases g2 : p.cl ≤ p.op
  · go_enter Try.func47, Try.ntmps47
    go_wp2_with (go_at_call 50; refine (within_any _ _ _ _).mono ?_; rintro e w' ⟨rfl, rfl⟩)
    go_ret
    have : ¬ (p.op < p.cl) := by omega
    exact ⟨ret_bool (by rw [HV.out, HH.out]; simp [this]), (Below.refl _ _).alloc (Nat.le_refl _) _⟩
  by_cases g3 : 1440 < p.cl
  · go_enter Try.func47, Try.ntmps47
    go_wp2_with (go_at_call 50; refine (within_any _ _ _ _).mono ?_; rintro e w' ⟨rfl, rfl⟩)
    go_ret
    have : ¬ (p.cl ≤ 1440) := by omega
    exact ⟨ret_bool (by rw [HV.out, HH.out]; simp [this]), (Below.refl _ _).alloc (Nat.le_refl _) _⟩
  by_cases g4 : 400 < p.hol.length
  · go_enter Try.func47, Try.ntmps47
    go_wp2_with (go_at_call 50; refine (within_any _ _ _ _).mono ?_; rintro e w' ⟨rfl, rfl⟩)
    go_ret
    have : ¬ (p.hol.length ≤ 400) := by omega
    exact ⟨ret_bool (by rw [HV.out, HH.out]; simp [this]), (Below.refl _ _).alloc (Nat.le_refl _) _⟩
  cases g5 : inB 1 p.mach 6
  · go_enter Try.func47, Try.ntmps47
    go_wp2_with (go_at_call 50; refine (within_any _ _ _ _).mono ?_; rintro e w' ⟨rfl, rfl⟩)
    go_ret
    skip
    exact ⟨ret_bool (by rw [HV.out, HH.out]; simp [g5]), (Below.refl _ _).alloc (Nat.le_refl _) _⟩
  by_cases g6 : ((p.setup.length : Int) != p.mach) = true
  · go_enter Try.func47, Try.ntmps47
    go_wp2_with (go_at_call 50; refine (within_any _ _ _ _).mono ?_; rintro e w' ⟨rfl, rfl⟩)
    go_ret
    have : ¬ ((p.setup.length : Int) = p.mach) := by simpa using g6
    exact ⟨ret_bool (by rw [HV.out, HH.out]; simp [this]), (Below.refl _ _).alloc (Nat.le_refl _) _⟩
  by_cases g7 : 12 < p.jobs.length
  · go_enter Try.func47, Try.ntmps47
    go_wp2_with (go_at_call 50; refine (within_any _ _ _ _).mono ?_; rintro e w' ⟨rfl, rfl⟩)
    go_ret
    have : ¬ (p.jobs.length ≤ 12) := by omega
    exact ⟨ret_bool (by rw [HV.out, HH.out]; simp [this]), (Below.refl _ _).alloc (Nat.le_refl _) _⟩
  have g5' := inB_iff.1 g5
  have g6' : ((p.setup.length : Int) != p.mach) = false := by simpa using g6
  have hv : validShop p = (holsOk (-1) p.hol && p.setup.all (fun n => inB 0 n 1000) && p.jobs.all (jobOk p)) := by
    have e6 : (p.setup.length : Int) = p.mach := by simpa using g6
    have a1 : 0 ≤ p.op := by omega
    have a2 : p.op < p.cl := by omega
    have a3 : p.cl ≤ 1440 := by omega
    have a4 : p.hol.length ≤ 400 := by omega
    have a7 : p.jobs.length ≤ 12 := by omega
    rw [HV.out, HH.out, g5]; simp [e6, a1, a2, a3, a4, a7]
  have HV2 := hide hv
  obtain ⟨g51, g52⟩ := g5'
  clear hv g6
  go_enter Try.func47, Try.ntmps47
  go_wp2_with (go_at_call 50; refine (within_any _ _ _ _).mono ?_; rintro e w' ⟨rfl, rfl⟩)
  go_loopw [53] (fun i wr => ∃ (k : Nat) (prev : Int), k ≤ p.hol.length ∧ i = .int .i64 k ∧ holsOk (-1) p.hol = holsOk prev (p.hol.drop k) ∧ (∀ j, k = j + 1 → p.hol[j]? = some prev) ∧ (k = 0 → prev = -1) ∧ Blk wr w.heap.size 25 #[.int .i64 p.op, .int .i64 p.cl, .slice aH p.hol.length cH, .int .i64 p.mach, .slice aS p.setup.length cS, .slice aJ p.jobs.length cJ] ∧ Below w.heap.size w wr) (fun i _ => p.hol.length - (intOf i).toNat)
  case atStart => exact ⟨0, -1, Nat.zero_le _, rfl, rfl, fun j h => by omega, fun _ => rfl, Blk.new _ _ _, (Below.refl _ _).alloc (Nat.le_refl _) _⟩
  case round =>
    obtain ⟨k, prev, hk, rfl, hs, hp, hp0, hblk, hbel⟩ := hrel
    have HS := hide hs
    have c2 := hblk.cell_ 2 rfl
    have c4 := hblk.cell_ 4 rfl
    clear hs
    by_cases hlt : k < p.hol.length
    · obtain ⟨d, b, off, hx, hA, hb, hc⟩ := ints_at' (hS1.below hbel) hlt
      have HX := hide hx
      subst hA
      clear hx
      cases hd : inB 0 d 10000
      · go_wp2_with (go_at_call 50; refine (within_any _ _ _ _).mono ?_; rintro e w' ⟨rfl, rfl⟩)
        go_ret
        exact ⟨ret_bool (by rw [HV2.out, HS.out, holsOk_bad1 HX.out hd]; rfl), hbel⟩
      · rcases k with _ | j
        · have hpe := hp0 rfl
          have hd0 := (inB_iff.1 hd).1
          have HE := hide hpe
          clear hpe hp hp0
          rw [Nat.add_zero] at hc
          go_wp2_with (go_at_call 50; refine (within_any _ _ _ _).mono ?_; rintro e w' ⟨rfl, rfl⟩)
          go_roundw
          case rel => exact ⟨1, d, by omega, by go_num, by rw [HS.out]; exact holsOk_good HX.out hd (by rw [HE.out]; omega), (by intro j hj; have e : j = 0 := (by omega); rw [e]; exact HX.out), fun h => by omega, hblk, hbel⟩
          case measure => simp [intOf]; omega
        · have hpr := hp j rfl
          obtain ⟨d', b', off', hx', hA', hb', hc'⟩ := ints_at' (k := j) (hS1.below hbel) (by omega)
          obtain ⟨rfl, rfl⟩ : b = b' ∧ off = off' := by injection hA' with hA'; injection hA' with h1 h2; exact ⟨h1, h2⟩
          obtain rfl : d' = prev := by rw [hpr] at hx'; injection hx' with hx'; exact hx'.symm
          clear hp hp0 hpr hx' hA'
          by_cases hlt2 : d ≤ d'
          · go_wp2_with (go_at_call 50; refine (within_any _ _ _ _).mono ?_; rintro e w' ⟨rfl, rfl⟩)
            go_ret
            exact ⟨ret_bool (by rw [HV2.out, HS.out, holsOk_bad2 HX.out hlt2]; rfl), hbel⟩
          · go_wp2_with (go_at_call 50; refine (within_any _ _ _ _).mono ?_; rintro e w' ⟨rfl, rfl⟩)
            go_roundw
            case rel => exact ⟨j + 1 + 1, d, by omega, by go_num, by rw [HS.out]; exact holsOk_good HX.out hd (by omega), (by intro j' hj; have e : j' = j + 1 := (by omega); rw [e]; exact HX.out), fun h => by omega, hblk, hbel⟩
            case measure => simp [intOf]; omega
    · obtain rfl : k = p.hol.length := by omega
      have h1 : holsOk (-1) p.hol = true := by rw [HS.out, nomore]; rfl
      have HV3 := hide (show validShop p = (p.setup.all (fun n => inB 0 n 1000) && p.jobs.all (jobOk p)) by rw [HV2.out, h1]; rfl)
      clear h1 hp hp0 c2
      go_wp2_with fail
      go_loopw [79] (fun i wr => ∃ (k : Nat), k ≤ p.setup.length ∧ i = .int .i64 k ∧ p.setup.all (fun n => inB 0 n 1000) = (p.setup.drop k).all (fun n => inB 0 n 1000) ∧ Blk wr w.heap.size 25 #[.int .i64 p.op, .int .i64 p.cl, .slice aH p.hol.length cH, .int .i64 p.mach, .slice aS p.setup.length cS, .slice aJ p.jobs.length cJ] ∧ Below w.heap.size w wr) (fun i _ => p.setup.length - (intOf i).toNat)
      case atStart => exact ⟨0, Nat.zero_le _, rfl, rfl, hblk, hbel⟩
      case round =>
        clear hblk hbel c4
        obtain ⟨k, hk, rfl, hs, hblk, hbel⟩ := hrel
        have HS2 := hide hs
        have c4 := hblk.cell_ 4 rfl
        have c5 := hblk.cell_ 5 rfl
        clear hs
        by_cases hlt : k < p.setup.length
        · obtain ⟨d, b, off, hx, hA, hb, hc⟩ := ints_at' (hS2.below hbel) hlt
          have HX := hide hx
          subst hA
          clear hx
          cases hd : inB 0 d 1000
          · go_wp2_with (go_at_call 50; refine (within_any _ _ _ _).mono ?_; rintro e w' ⟨rfl, rfl⟩)
            go_ret
            exact ⟨ret_bool (by rw [HV3.out, HS2.out, all_drop HX.out, hd]; rfl), hbel⟩
          · go_wp2_with (go_at_call 50; refine (within_any _ _ _ _).mono ?_; rintro e w' ⟨rfl, rfl⟩)
            go_roundw
            case rel => exact ⟨k + 1, by omega, by go_num, by rw [HS2.out, all_drop HX.out, hd]; rfl, hblk, hbel⟩
            case measure => simp [intOf]; omega
        · obtain rfl : k = p.setup.length := by omega
          have h1 : p.setup.all (fun n => inB 0 n 1000) = true := by rw [HS2.out, nomore]; rfl
          have HV4 := hide (show validShop p = p.jobs.all (jobOk p) by rw [HV3.out, h1]; rfl)
          clear h1 c4
          go_wp2_with fail
          go_loopw [90] (fun i wr => ∃ (k : Nat), k ≤ p.jobs.length ∧ i = .int .i64 k ∧ p.jobs.all (jobOk p) = (p.jobs.drop k).all (jobOk p) ∧ Blk wr w.heap.size 25 #[.int .i64 p.op, .int .i64 p.cl, .slice aH p.hol.length cH, .int .i64 p.mach, .slice aS p.setup.length cS, .slice aJ p.jobs.length cJ] ∧ Below w.heap.size w wr) (fun i _ => p.jobs.length - (intOf i).toNat)
          case atStart => exact ⟨0, Nat.zero_le _, rfl, rfl, hblk, hbel⟩
          case round =>
            clear hblk hbel c5
            obtain ⟨k, hk, rfl, hs, hblk, hbel⟩ := hrel
            have HS3 := hide hs
            have c5 := hblk.cell_ 5 rfl
            clear hs
            by_cases hlt : k < p.jobs.length
            · obtain ⟨l, b, off, A', c', hx, hA, hb, hc, hSl⟩ := jobs_at (hS3.keep fun _ hp => hbel.cell hp) hlt
              have hl := H4.out l (List.mem_of_getElem? hx)
              have HX := hide hx
              subst hA
              clear hx
              have hmf : ∀ (fn : Fn) (first cap : Array Value) (w : World), (Instr.makeFunc fn first cap).run Try.prog w = .ok (.func fn first cap) w := fun _ _ _ _ => rfl
              have HJ : Hid (jobOk p l = (decide (l.length ≤ 8) && l.all (stepOk p))) := rfl
              by_cases h8 : 8 < l.length
              · go_wp2_with (go_at_call 50; refine (within_any _ _ _ _).mono ?_; rintro e w' ⟨rfl, rfl⟩)
                go_ret
                exact ⟨ret_bool (by rw [HV4.out, HS3.out, all_drop HX.out, HJ.out]; simp; omega), hbel.alloc hbel.size _⟩
              · go_wp2_with fail
                refine (containsStep_any ⟨p, aH, cH, aS, cS, _, cJ⟩ A' c' l _ _ (hblk.alloc _) (by omega) (by omega) (by omega) (by omega) (by omega) (by omega) ((hSl.more hbel.size).below ((Below.refl _ _).alloc (Nat.le_refl _) _) |>.more (by simp))).mono ?_
                rintro e w2 ⟨rfl, hb2⟩
                have hb3 : Below w.heap.size w w2 := (hbel.alloc hbel.size _).trans (hb2.mono (by simp; have := hbel.size; omega))
                have hblk2 := (hblk.alloc _).below hb2 (by simp; have := hblk.lt; omega)
                cases hany : l.any fun x => !stepOk p x
                · have hall : jobOk p l = true := by
                    rw [HJ.out]
                    have : l.all (stepOk p) = true := by
                      rw [List.all_eq_true]; intro x hx
                      have := List.any_eq_false.1 hany x hx
                      simpa using this
                    rw [this]; simp; omega
                  have HA := hide hall
                  clear hall
                  go_wp2
                  go_roundw
                  case rel => exact ⟨k + 1, by omega, by go_num, by rw [HS3.out, all_drop HX.out, HA.out]; rfl, hblk2, hb3⟩
                  case measure => simp [intOf]; omega
                · have hno : jobOk p l = false := by
                    rw [HJ.out]
                    have : l.all (stepOk p) = false := by
                      obtain ⟨x, hx, hx2⟩ := List.any_eq_true.1 hany
                      rw [List.all_eq_false]
                      exact ⟨x, hx, by simpa using hx2⟩
                    rw [this]; simp
                  have HA := hide hno
                  clear hno
                  go_wp2
                  go_ret
                  exact ⟨ret_bool (by rw [HV4.out, HS3.out, all_drop HX.out, HA.out]; rfl), hb3⟩
            · obtain rfl : k = p.jobs.length := by omega
              go_wp2_with fail
              go_ret
              exact ⟨ret_bool (by rw [HV4.out, HS3.out, nomore]; rfl), hbel⟩
end Go.Proofs.Ytcpnfcnobnjhdaa
