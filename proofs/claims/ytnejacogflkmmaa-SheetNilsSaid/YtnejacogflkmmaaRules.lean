/- Valid rules: the walks of both texts. -/
import Derived.Test.YtnejacogflkmmaaValid
namespace Go.Proofs.Ytnejacogflkmmaa
open Go.RowKit
set_option maxHeartbeats 1000000 in
theorem validRules_any (mw ml l0 l1 l2 : Int) (w : World) :
    Calls Try.prog 15 #[.agg #[.int .i64 mw, .int .i64 ml, .int .i64 l0, .int .i64 l1, .int .i64 l2]] w fun e w' => e = .returned (.bool (validRules ⟨mw, ml, l0, l1, l2⟩)) ∧ Below w.heap.size w w' := by
  have i0 : ∀ w, (Instr.index 25 (.agg #[.int .i64 l0, .int .i64 l1, .int .i64 l2]) (.int .i64 0)).run Try.prog w = .ok (.int .i64 l0) w := fun _ => by kernel_rfl
  have i1 : ∀ w, (Instr.index 25 (.agg #[.int .i64 l0, .int .i64 l1, .int .i64 l2]) (.int .i64 1)).run Try.prog w = .ok (.int .i64 l1) w := fun _ => by kernel_rfl
  have i2 : ∀ w, (Instr.index 25 (.agg #[.int .i64 l0, .int .i64 l1, .int .i64 l2]) (.int .i64 2)).run Try.prog w = .ok (.int .i64 l2) w := fun _ => by kernel_rfl
  have HV : Hid (validRules ⟨mw, ml, l0, l1, l2⟩ = (inB 0 l0 100000 && inB 0 l1 100000 && inB 0 l2 100000 && inB 1 mw 1000 && inB 1 ml 1000)) := rfl
  cases h0 : inB 0 l0 100000
  · go_enter Try.func15, Try.ntmps15
    go_wp2
    refine wp_loop_rounds 4 ?_
    rw [rounds_succ]
    go_wp2_with (go_at_call 40; refine (within_any _ _ _ _).mono ?_; rintro e w' ⟨rfl, rfl⟩)
    go_ret
    exact ⟨ret_bool (by rw [HV.out]; simp [h0]), (Below.refl _ _).alloc (Nat.le_refl _) _⟩
  cases h1 : inB 0 l1 100000
  · go_enter Try.func15, Try.ntmps15
    go_wp2
    refine wp_loop_rounds 4 ?_
    rw [rounds_succ]
    go_wp2_with (go_at_call 40; refine (within_any _ _ _ _).mono ?_; rintro e w' ⟨rfl, rfl⟩)
    rw [rounds_succ]
    go_wp2_with (go_at_call 40; refine (within_any _ _ _ _).mono ?_; rintro e w' ⟨rfl, rfl⟩)
    go_ret
    exact ⟨ret_bool (by rw [HV.out]; simp [h0, h1]), (Below.refl _ _).alloc (Nat.le_refl _) _⟩
  cases h2 : inB 0 l2 100000
  · go_enter Try.func15, Try.ntmps15
    go_wp2
    refine wp_loop_rounds 4 ?_
    rw [rounds_succ]
    go_wp2_with (go_at_call 40; refine (within_any _ _ _ _).mono ?_; rintro e w' ⟨rfl, rfl⟩)
    rw [rounds_succ]
    go_wp2_with (go_at_call 40; refine (within_any _ _ _ _).mono ?_; rintro e w' ⟨rfl, rfl⟩)
    rw [rounds_succ]
    go_wp2_with (go_at_call 40; refine (within_any _ _ _ _).mono ?_; rintro e w' ⟨rfl, rfl⟩)
    go_ret
    exact ⟨ret_bool (by rw [HV.out]; simp [h0, h1, h2]), (Below.refl _ _).alloc (Nat.le_refl _) _⟩
  cases h3 : inB 1 mw 1000
  · go_enter Try.func15, Try.ntmps15
    go_wp2
    refine wp_loop_rounds 4 ?_
    rw [rounds_succ]
    go_wp2_with (go_at_call 40; refine (within_any _ _ _ _).mono ?_; rintro e w' ⟨rfl, rfl⟩)
    rw [rounds_succ]
    go_wp2_with (go_at_call 40; refine (within_any _ _ _ _).mono ?_; rintro e w' ⟨rfl, rfl⟩)
    rw [rounds_succ]
    go_wp2_with (go_at_call 40; refine (within_any _ _ _ _).mono ?_; rintro e w' ⟨rfl, rfl⟩)
    rw [rounds_succ]
    go_wp2_with (go_at_call 40; refine (within_any _ _ _ _).mono ?_; rintro e w' ⟨rfl, rfl⟩)
    go_ret
    exact ⟨ret_bool (by rw [HV.out]; simp [h0, h1, h2, h3]), (Below.refl _ _).alloc (Nat.le_refl _) _⟩
  cases h4 : inB 1 ml 1000
  · go_enter Try.func15, Try.ntmps15
    go_wp2
    refine wp_loop_rounds 4 ?_
    rw [rounds_succ]
    go_wp2_with (go_at_call 40; refine (within_any _ _ _ _).mono ?_; rintro e w' ⟨rfl, rfl⟩)
    rw [rounds_succ]
    go_wp2_with (go_at_call 40; refine (within_any _ _ _ _).mono ?_; rintro e w' ⟨rfl, rfl⟩)
    rw [rounds_succ]
    go_wp2_with (go_at_call 40; refine (within_any _ _ _ _).mono ?_; rintro e w' ⟨rfl, rfl⟩)
    rw [rounds_succ]
    go_wp2_with (go_at_call 40; refine (within_any _ _ _ _).mono ?_; rintro e w' ⟨rfl, rfl⟩)
    go_ret
    exact ⟨ret_bool (by rw [HV.out]; simp [h0, h1, h2, h3, h4]), (Below.refl _ _).alloc (Nat.le_refl _) _⟩
  · go_enter Try.func15, Try.ntmps15
    go_wp2
    refine wp_loop_rounds 4 ?_
    rw [rounds_succ]
    go_wp2_with (go_at_call 40; refine (within_any _ _ _ _).mono ?_; rintro e w' ⟨rfl, rfl⟩)
    rw [rounds_succ]
    go_wp2_with (go_at_call 40; refine (within_any _ _ _ _).mono ?_; rintro e w' ⟨rfl, rfl⟩)
    rw [rounds_succ]
    go_wp2_with (go_at_call 40; refine (within_any _ _ _ _).mono ?_; rintro e w' ⟨rfl, rfl⟩)
    rw [rounds_succ]
    go_wp2_with (go_at_call 40; refine (within_any _ _ _ _).mono ?_; rintro e w' ⟨rfl, rfl⟩)
    go_ret
    exact ⟨ret_bool (by rw [HV.out]; simp [h0, h1, h2, h3, h4]), (Below.refl _ _).alloc (Nat.le_refl _) _⟩
set_option maxHeartbeats 1000000 in
theorem refValidRules_any (mw ml l0 l1 l2 : Int) (w : World) :
    Calls Try.prog 16 #[.agg #[.int .i64 mw, .int .i64 ml, .int .i64 l0, .int .i64 l1, .int .i64 l2]] w fun e w' => e = .returned (.bool (validRules ⟨mw, ml, l0, l1, l2⟩)) ∧ Below w.heap.size w w' := by
  have HV : Hid (validRules ⟨mw, ml, l0, l1, l2⟩ = (inB 0 l0 100000 && inB 0 l1 100000 && inB 0 l2 100000 && inB 1 mw 1000 && inB 1 ml 1000)) := rfl
  cases h0 : inB 0 l0 100000
  · go_enter Try.func16, Try.ntmps16
    go_wp2
    refine wp_loop_rounds 4 ?_
    rw [rounds_succ]
    go_wp2_with (go_at_call 41; refine (from_any _ _ _ _).mono ?_; rintro e w' ⟨rfl, rfl⟩)
    go_ret
    exact ⟨ret_bool (by rw [HV.out]; simp [h0]), (Below.refl _ _).alloc (Nat.le_refl _) _⟩
  cases h1 : inB 0 l1 100000
  · go_enter Try.func16, Try.ntmps16
    go_wp2
    refine wp_loop_rounds 4 ?_
    rw [rounds_succ]
    go_wp2_with (go_at_call 41; refine (from_any _ _ _ _).mono ?_; rintro e w' ⟨rfl, rfl⟩)
    rw [rounds_succ]
    go_wp2_with (go_at_call 41; refine (from_any _ _ _ _).mono ?_; rintro e w' ⟨rfl, rfl⟩)
    go_ret
    exact ⟨ret_bool (by rw [HV.out]; simp [h0, h1]), (Below.refl _ _).alloc (Nat.le_refl _) _⟩
  cases h2 : inB 0 l2 100000
  · go_enter Try.func16, Try.ntmps16
    go_wp2
    refine wp_loop_rounds 4 ?_
    rw [rounds_succ]
    go_wp2_with (go_at_call 41; refine (from_any _ _ _ _).mono ?_; rintro e w' ⟨rfl, rfl⟩)
    rw [rounds_succ]
    go_wp2_with (go_at_call 41; refine (from_any _ _ _ _).mono ?_; rintro e w' ⟨rfl, rfl⟩)
    rw [rounds_succ]
    go_wp2_with (go_at_call 41; refine (from_any _ _ _ _).mono ?_; rintro e w' ⟨rfl, rfl⟩)
    go_ret
    exact ⟨ret_bool (by rw [HV.out]; simp [h0, h1, h2]), (Below.refl _ _).alloc (Nat.le_refl _) _⟩
  cases h3 : inB 1 mw 1000
  · go_enter Try.func16, Try.ntmps16
    go_wp2
    refine wp_loop_rounds 4 ?_
    rw [rounds_succ]
    go_wp2_with (go_at_call 41; refine (from_any _ _ _ _).mono ?_; rintro e w' ⟨rfl, rfl⟩)
    rw [rounds_succ]
    go_wp2_with (go_at_call 41; refine (from_any _ _ _ _).mono ?_; rintro e w' ⟨rfl, rfl⟩)
    rw [rounds_succ]
    go_wp2_with (go_at_call 41; refine (from_any _ _ _ _).mono ?_; rintro e w' ⟨rfl, rfl⟩)
    rw [rounds_succ]
    go_wp2_with (go_at_call 41; refine (from_any _ _ _ _).mono ?_; rintro e w' ⟨rfl, rfl⟩)
    go_ret
    exact ⟨ret_bool (by rw [HV.out]; simp [h0, h1, h2, h3]), (Below.refl _ _).alloc (Nat.le_refl _) _⟩
  cases h4 : inB 1 ml 1000
  · go_enter Try.func16, Try.ntmps16
    go_wp2
    refine wp_loop_rounds 4 ?_
    rw [rounds_succ]
    go_wp2_with (go_at_call 41; refine (from_any _ _ _ _).mono ?_; rintro e w' ⟨rfl, rfl⟩)
    rw [rounds_succ]
    go_wp2_with (go_at_call 41; refine (from_any _ _ _ _).mono ?_; rintro e w' ⟨rfl, rfl⟩)
    rw [rounds_succ]
    go_wp2_with (go_at_call 41; refine (from_any _ _ _ _).mono ?_; rintro e w' ⟨rfl, rfl⟩)
    rw [rounds_succ]
    go_wp2_with (go_at_call 41; refine (from_any _ _ _ _).mono ?_; rintro e w' ⟨rfl, rfl⟩)
    go_ret
    exact ⟨ret_bool (by rw [HV.out]; simp [h0, h1, h2, h3, h4]), (Below.refl _ _).alloc (Nat.le_refl _) _⟩
  · go_enter Try.func16, Try.ntmps16
    go_wp2
    refine wp_loop_rounds 4 ?_
    rw [rounds_succ]
    go_wp2_with (go_at_call 41; refine (from_any _ _ _ _).mono ?_; rintro e w' ⟨rfl, rfl⟩)
    rw [rounds_succ]
    go_wp2_with (go_at_call 41; refine (from_any _ _ _ _).mono ?_; rintro e w' ⟨rfl, rfl⟩)
    rw [rounds_succ]
    go_wp2_with (go_at_call 41; refine (from_any _ _ _ _).mono ?_; rintro e w' ⟨rfl, rfl⟩)
    rw [rounds_succ]
    go_wp2_with (go_at_call 41; refine (from_any _ _ _ _).mono ?_; rintro e w' ⟨rfl, rfl⟩)
    go_ret
    exact ⟨ret_bool (by rw [HV.out]; simp [h0, h1, h2, h3, h4]), (Below.refl _ _).alloc (Nat.le_refl _) _⟩
end Go.Proofs.Ytnejacogflkmmaa
