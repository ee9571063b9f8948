/- Which jobs and nights are valid: the walks of both texts. -/
import Derived.Test.YtkcfalehebacpaaNFits
import Derived.Test.YtkcfalehebacpaaMaps
namespace Go.Proofs.Ytkcfalehebacpaa
open Go.RowKit
set_option maxHeartbeats 2000000 in
theorem validJob_any (j : Job) (w : World) : Calls Try.prog 59 #[.agg #[.int .i64 j.n, .int .i64 j.road, .int .i64 j.chain, .int .i64 j.first, .int .i64 j.last, .int .i64 j.crew, .bool j.dry, .bool j.warm]] w fun e w' => e = .returned (.bool (jobOk j)) ∧ Below w.heap.size w w' := by
  have HV : Hid (jobOk j = (inB 1 j.n 1000000000 && inB 1 j.road 1000000 && inB 0 j.chain 10000000 && decide (0 ≤ j.first) && decide (j.first ≤ j.last) && decide (j.last ≤ 100000) && inB 1 j.crew 9)) := rfl
  cases q0 : inB 1 j.n 1000000000
  case false =>
    go_enter Try.func59, Try.ntmps59
    go_wp2_with (go_at_call 71; refine (within_any _ _ _ _).mono ?_; rintro e w' ⟨rfl, rfl⟩)
    go_ret
    exact ⟨ret_bool (by rw [HV.out]; simp [*] <;> (intros; omega)), (Below.refl _ _).alloc (Nat.le_refl _) _⟩
  cases q1 : inB 1 j.road 1000000
  case false =>
    go_enter Try.func59, Try.ntmps59
    go_wp2_with (go_at_call 71; refine (within_any _ _ _ _).mono ?_; rintro e w' ⟨rfl, rfl⟩)
    go_ret
    exact ⟨ret_bool (by rw [HV.out]; simp [*] <;> (intros; omega)), (Below.refl _ _).alloc (Nat.le_refl _) _⟩
  cases q2 : inB 0 j.chain 10000000
  case false =>
    go_enter Try.func59, Try.ntmps59
    go_wp2_with (go_at_call 71; refine (within_any _ _ _ _).mono ?_; rintro e w' ⟨rfl, rfl⟩)
    go_ret
    exact ⟨ret_bool (by rw [HV.out]; simp [*] <;> (intros; omega)), (Below.refl _ _).alloc (Nat.le_refl _) _⟩
  by_cases q3 : 0 ≤ j.first
  case neg =>
    go_enter Try.func59, Try.ntmps59
    go_wp2_with (go_at_call 71; refine (within_any _ _ _ _).mono ?_; rintro e w' ⟨rfl, rfl⟩)
    go_ret
    exact ⟨ret_bool (by rw [HV.out]; simp [*] <;> (intros; omega)), (Below.refl _ _).alloc (Nat.le_refl _) _⟩
  by_cases q4 : j.first ≤ j.last
  case neg =>
    go_enter Try.func59, Try.ntmps59
    go_wp2_with (go_at_call 71; refine (within_any _ _ _ _).mono ?_; rintro e w' ⟨rfl, rfl⟩)
    go_ret
    exact ⟨ret_bool (by rw [HV.out]; simp [*] <;> (intros; omega)), (Below.refl _ _).alloc (Nat.le_refl _) _⟩
  by_cases q5 : j.last ≤ 100000
  case neg =>
    go_enter Try.func59, Try.ntmps59
    go_wp2_with (go_at_call 71; refine (within_any _ _ _ _).mono ?_; rintro e w' ⟨rfl, rfl⟩)
    go_ret
    exact ⟨ret_bool (by rw [HV.out]; simp [*] <;> (intros; omega)), (Below.refl _ _).alloc (Nat.le_refl _) _⟩
  go_enter Try.func59, Try.ntmps59
  go_wp2_with (go_at_call 71; refine (within_any _ _ _ _).mono ?_; rintro e w' ⟨rfl, rfl⟩)
  go_ret
  exact ⟨ret_bool (by rw [HV.out]; simp [*] <;> (intros; omega)), (Below.refl _ _).alloc (Nat.le_refl _) _⟩
set_option maxHeartbeats 2000000 in
theorem validNight_any (n : Nit) (w : World) : Calls Try.prog 62 #[.agg #[.int .i64 n.day, .int .i64 n.road, .int .i64 n.lo, .int .i64 n.hi, .int .i64 n.crew, .int .i64 n.pl, .bool n.rain, .bool n.frost]] w fun e w' => e = .returned (.bool (nitOk n)) ∧ Below w.heap.size w w' := by
  have HV : Hid (nitOk n = (inB 0 n.day 100000 && inB 1 n.road 1000000 && decide (0 ≤ n.lo) && decide (n.lo ≤ n.hi) && decide (n.hi ≤ 10000000) && inB 1 n.crew 9 && inB 0 n.pl 100)) := rfl
  cases q0 : inB 0 n.day 100000
  case false =>
    go_enter Try.func62, Try.ntmps62
    go_wp2_with (go_at_call 71; refine (within_any _ _ _ _).mono ?_; rintro e w' ⟨rfl, rfl⟩)
    go_ret
    exact ⟨ret_bool (by rw [HV.out]; simp [*] <;> (intros; omega)), (Below.refl _ _).alloc (Nat.le_refl _) _⟩
  cases q1 : inB 1 n.road 1000000
  case false =>
    go_enter Try.func62, Try.ntmps62
    go_wp2_with (go_at_call 71; refine (within_any _ _ _ _).mono ?_; rintro e w' ⟨rfl, rfl⟩)
    go_ret
    exact ⟨ret_bool (by rw [HV.out]; simp [*] <;> (intros; omega)), (Below.refl _ _).alloc (Nat.le_refl _) _⟩
  by_cases q3 : 0 ≤ n.lo
  case neg =>
    go_enter Try.func62, Try.ntmps62
    go_wp2_with (go_at_call 71; refine (within_any _ _ _ _).mono ?_; rintro e w' ⟨rfl, rfl⟩)
    go_ret
    exact ⟨ret_bool (by rw [HV.out]; simp [*] <;> (intros; omega)), (Below.refl _ _).alloc (Nat.le_refl _) _⟩
  by_cases q4 : n.lo ≤ n.hi
  case neg =>
    go_enter Try.func62, Try.ntmps62
    go_wp2_with (go_at_call 71; refine (within_any _ _ _ _).mono ?_; rintro e w' ⟨rfl, rfl⟩)
    go_ret
    exact ⟨ret_bool (by rw [HV.out]; simp [*] <;> (intros; omega)), (Below.refl _ _).alloc (Nat.le_refl _) _⟩
  by_cases q5 : n.hi ≤ 10000000
  case neg =>
    go_enter Try.func62, Try.ntmps62
    go_wp2_with (go_at_call 71; refine (within_any _ _ _ _).mono ?_; rintro e w' ⟨rfl, rfl⟩)
    go_ret
    exact ⟨ret_bool (by rw [HV.out]; simp [*] <;> (intros; omega)), (Below.refl _ _).alloc (Nat.le_refl _) _⟩
  cases q6 : inB 1 n.crew 9
  case false =>
    go_enter Try.func62, Try.ntmps62
    go_wp2_with (go_at_call 71; refine (within_any _ _ _ _).mono ?_; rintro e w' ⟨rfl, rfl⟩)
    go_ret
    exact ⟨ret_bool (by rw [HV.out]; simp [*] <;> (intros; omega)), (Below.refl _ _).alloc (Nat.le_refl _) _⟩
  go_enter Try.func62, Try.ntmps62
  go_wp2_with (go_at_call 71; refine (within_any _ _ _ _).mono ?_; rintro e w' ⟨rfl, rfl⟩)
  go_ret
  exact ⟨ret_bool (by rw [HV.out]; simp [*] <;> (intros; omega)), (Below.refl _ _).alloc (Nat.le_refl _) _⟩
set_option maxHeartbeats 2000000 in
theorem refJob_any (j : Job) (w : World) : Calls Try.prog 57 #[.agg #[.int .i64 j.n, .int .i64 j.road, .int .i64 j.chain, .int .i64 j.first, .int .i64 j.last, .int .i64 j.crew, .bool j.dry, .bool j.warm]] w fun e w' => e = .returned (.bool (jobOk j)) ∧ Below w.heap.size w w' := by
  have HV : Hid (jobOk j = (inB 1 j.n 1000000000 && inB 1 j.road 1000000 && inB 0 j.chain 10000000 && inB 0 j.first j.last && decide (j.last ≤ 100000) && inB 1 j.crew 9)) := by
    show _ = _
    simp [jobOk, inB, Bool.and_assoc]
  cases q0 : inB 1 j.n 1000000000
  case false =>
    go_enter Try.func57, Try.ntmps57
    go_wp2_with (go_at_call 72; refine (from_any _ _ _ _).mono ?_; rintro e w' ⟨rfl, rfl⟩)
    go_ret
    exact ⟨ret_bool (by rw [HV.out]; simp [*] <;> (intros; omega)), (Below.refl _ _).alloc (Nat.le_refl _) _⟩
  cases q1 : inB 1 j.road 1000000
  case false =>
    go_enter Try.func57, Try.ntmps57
    go_wp2_with (go_at_call 72; refine (from_any _ _ _ _).mono ?_; rintro e w' ⟨rfl, rfl⟩)
    go_ret
    exact ⟨ret_bool (by rw [HV.out]; simp [*] <;> (intros; omega)), (Below.refl _ _).alloc (Nat.le_refl _) _⟩
  cases q2 : inB 0 j.chain 10000000
  case false =>
    go_enter Try.func57, Try.ntmps57
    go_wp2_with (go_at_call 72; refine (from_any _ _ _ _).mono ?_; rintro e w' ⟨rfl, rfl⟩)
    go_ret
    exact ⟨ret_bool (by rw [HV.out]; simp [*] <;> (intros; omega)), (Below.refl _ _).alloc (Nat.le_refl _) _⟩
  cases q3 : inB 0 j.first j.last
  case false =>
    go_enter Try.func57, Try.ntmps57
    go_wp2_with (go_at_call 72; refine (from_any _ _ _ _).mono ?_; rintro e w' ⟨rfl, rfl⟩)
    go_ret
    exact ⟨ret_bool (by rw [HV.out]; simp [*] <;> (intros; omega)), (Below.refl _ _).alloc (Nat.le_refl _) _⟩
  by_cases q5 : j.last ≤ 100000
  case neg =>
    go_enter Try.func57, Try.ntmps57
    go_wp2_with (go_at_call 72; refine (from_any _ _ _ _).mono ?_; rintro e w' ⟨rfl, rfl⟩)
    go_ret
    exact ⟨ret_bool (by rw [HV.out]; simp [*] <;> (intros; omega)), (Below.refl _ _).alloc (Nat.le_refl _) _⟩
  go_enter Try.func57, Try.ntmps57
  go_wp2_with (go_at_call 72; refine (from_any _ _ _ _).mono ?_; rintro e w' ⟨rfl, rfl⟩)
  go_ret
  exact ⟨ret_bool (by rw [HV.out]; simp [*] <;> (intros; omega)), (Below.refl _ _).alloc (Nat.le_refl _) _⟩
set_option maxHeartbeats 2000000 in
theorem refNight_any (n : Nit) (w : World) : Calls Try.prog 58 #[.agg #[.int .i64 n.day, .int .i64 n.road, .int .i64 n.lo, .int .i64 n.hi, .int .i64 n.crew, .int .i64 n.pl, .bool n.rain, .bool n.frost]] w fun e w' => e = .returned (.bool (nitOk n)) ∧ Below w.heap.size w w' := by
  have HV : Hid (nitOk n = (inB 0 n.day 100000 && inB 1 n.road 1000000 && inB 0 n.lo n.hi && decide (n.hi ≤ 10000000) && inB 1 n.crew 9 && inB 0 n.pl 100)) := by
    show _ = _
    simp [nitOk, inB, Bool.and_assoc]
  cases q0 : inB 0 n.day 100000
  case false =>
    go_enter Try.func58, Try.ntmps58
    go_wp2_with (go_at_call 72; refine (from_any _ _ _ _).mono ?_; rintro e w' ⟨rfl, rfl⟩)
    go_ret
    exact ⟨ret_bool (by rw [HV.out]; simp [*] <;> (intros; omega)), (Below.refl _ _).alloc (Nat.le_refl _) _⟩
  cases q1 : inB 1 n.road 1000000
  case false =>
    go_enter Try.func58, Try.ntmps58
    go_wp2_with (go_at_call 72; refine (from_any _ _ _ _).mono ?_; rintro e w' ⟨rfl, rfl⟩)
    go_ret
    exact ⟨ret_bool (by rw [HV.out]; simp [*] <;> (intros; omega)), (Below.refl _ _).alloc (Nat.le_refl _) _⟩
  cases q3 : inB 0 n.lo n.hi
  case false =>
    go_enter Try.func58, Try.ntmps58
    go_wp2_with (go_at_call 72; refine (from_any _ _ _ _).mono ?_; rintro e w' ⟨rfl, rfl⟩)
    go_ret
    exact ⟨ret_bool (by rw [HV.out]; simp [*] <;> (intros; omega)), (Below.refl _ _).alloc (Nat.le_refl _) _⟩
  by_cases q5 : n.hi ≤ 10000000
  case neg =>
    go_enter Try.func58, Try.ntmps58
    go_wp2_with (go_at_call 72; refine (from_any _ _ _ _).mono ?_; rintro e w' ⟨rfl, rfl⟩)
    go_ret
    exact ⟨ret_bool (by rw [HV.out]; simp [*] <;> (intros; omega)), (Below.refl _ _).alloc (Nat.le_refl _) _⟩
  cases q6 : inB 1 n.crew 9
  case false =>
    go_enter Try.func58, Try.ntmps58
    go_wp2_with (go_at_call 72; refine (from_any _ _ _ _).mono ?_; rintro e w' ⟨rfl, rfl⟩)
    go_ret
    exact ⟨ret_bool (by rw [HV.out]; simp [*] <;> (intros; omega)), (Below.refl _ _).alloc (Nat.le_refl _) _⟩
  go_enter Try.func58, Try.ntmps58
  go_wp2_with (go_at_call 72; refine (from_any _ _ _ _).mono ?_; rintro e w' ⟨rfl, rfl⟩)
  go_ret
  exact ⟨ret_bool (by rw [HV.out]; simp [*] <;> (intros; omega)), (Below.refl _ _).alloc (Nat.le_refl _) _⟩
theorem checked1_any (n : Nit) (w : World) : Calls Try.prog 61 #[.agg #[.int .i64 n.day, .int .i64 n.road, .int .i64 n.lo, .int .i64 n.hi, .int .i64 n.crew, .int .i64 n.pl, .bool n.rain, .bool n.frost]] w fun e w' => e = .returned (.bool (!nitOk n)) ∧ Below w.heap.size w w' := by
  go_enter Try.func61, Try.ntmps61
  go_wp2_with fail
  refine (validNight_any n _).mono ?_
  rintro e w2 ⟨rfl, hb⟩
  go_wp2_with fail
  go_ret
  exact ⟨rfl, ((Below.refl _ _).alloc (Nat.le_refl _) _).trans (hb.mono (by simp))⟩
end Go.Proofs.Ytkcfalehebacpaa
