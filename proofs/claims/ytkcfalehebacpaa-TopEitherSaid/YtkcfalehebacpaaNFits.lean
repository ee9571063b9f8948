/- Which jobs fit which nights; which are valid: the walks. -/
import Derived.Test.YtkcfalehebacpaaNightP
import Derived.Test.YtkcfalehebacpaaRows
import Derived.Test.YtkcfalehebacpaaDraw
import Derived.WalkLawsBesides
import Derived.WalkSpells
import Derived.Outline
import Derived.BigQuiet
import Derived.Deep.QuietTactic
import Derived.Deep.DeepCutAuto
namespace Go.Proofs.Ytkcfalehebacpaa
open Go.RowKit
theorem within_any (a n b : Int) (w : World) : Calls Try.prog 71 #[.int .i64 a, .int .i64 n, .int .i64 b] w fun e w' => e = .returned (.bool (inB a n b)) ∧ w = w' := by
  have H : Hid (inB a n b = (decide (a ≤ n) && decide (n ≤ b))) := rfl
  by_cases h1 : a ≤ n
  · go_enter Try.func71, Try.ntmps71
    go_wp2
    all_goals go_ret; rw [H.out]; simp [*]; try omega
  · go_enter Try.func71, Try.ntmps71
    go_wp2
    go_ret; rw [H.out]; simp; omega
theorem from_any (a n b : Int) (w : World) : Calls Try.prog 72 #[.int .i64 a, .int .i64 n, .int .i64 b] w fun e w' => e = .returned (.bool (inB a n b)) ∧ w = w' := by
  have H : Hid (inB a n b = (decide (a ≤ n) && decide (n ≤ b))) := rfl
  by_cases h1 : a ≤ n
  · go_enter Try.func72, Try.ntmps72
    go_wp2
    all_goals go_ret; rw [H.out]; simp [*]; try omega
  · go_enter Try.func72, Try.ntmps72
    go_wp2
    go_ret; rw [H.out]; simp; omega
set_option maxHeartbeats 2000000 in
theorem fits_any (j : Job) (n : Nit) (w : World) : Calls Try.prog 34 #[.agg #[.int .i64 j.n, .int .i64 j.road, .int .i64 j.chain, .int .i64 j.first, .int .i64 j.last, .int .i64 j.crew, .bool j.dry, .bool j.warm], .agg #[.int .i64 n.day, .int .i64 n.road, .int .i64 n.lo, .int .i64 n.hi, .int .i64 n.crew, .int .i64 n.pl, .bool n.rain, .bool n.frost]] w fun e w' => e = .returned (.bool (fitsF j n)) ∧ Below w.heap.size w w' := by
  have HV : Hid (fitsF j n = (decide (j.road = n.road) && decide (j.crew = n.crew) && inB j.first n.day j.last && inB n.lo j.chain n.hi && !(j.dry && n.rain) && !(j.warm && n.frost))) := rfl
  by_cases c0 : j.road = n.road
  case neg =>
    go_enter Try.func34, Try.ntmps34
    go_wp2_with (go_at_call 71; refine (within_any _ _ _ _).mono ?_; rintro e w' ⟨rfl, rfl⟩)
    go_ret
    exact ⟨ret_bool (by rw [HV.out]; simp [*]), ((Below.refl _ _).alloc (Nat.le_refl _) _).alloc (by simp) _⟩
  by_cases c1 : j.crew = n.crew
  case neg =>
    go_enter Try.func34, Try.ntmps34
    go_wp2_with (go_at_call 71; refine (within_any _ _ _ _).mono ?_; rintro e w' ⟨rfl, rfl⟩)
    go_ret
    exact ⟨ret_bool (by rw [HV.out]; simp [*]), ((Below.refl _ _).alloc (Nat.le_refl _) _).alloc (by simp) _⟩
  cases c2 : inB j.first n.day j.last
  case false =>
    go_enter Try.func34, Try.ntmps34
    go_wp2_with (go_at_call 71; refine (within_any _ _ _ _).mono ?_; rintro e w' ⟨rfl, rfl⟩)
    go_ret
    exact ⟨ret_bool (by rw [HV.out]; simp [*]), ((Below.refl _ _).alloc (Nat.le_refl _) _).alloc (by simp) _⟩
  cases c3 : inB n.lo j.chain n.hi
  case false =>
    go_enter Try.func34, Try.ntmps34
    go_wp2_with (go_at_call 71; refine (within_any _ _ _ _).mono ?_; rintro e w' ⟨rfl, rfl⟩)
    go_ret
    exact ⟨ret_bool (by rw [HV.out]; simp [*]), ((Below.refl _ _).alloc (Nat.le_refl _) _).alloc (by simp) _⟩
  cases c4 : j.dry <;> cases c5 : n.rain <;> cases c6 : j.warm <;> cases c7 : n.frost
  all_goals
    go_enter Try.func34, Try.ntmps34
    go_wp2_with (go_at_call 71; refine (within_any _ _ _ _).mono ?_; rintro e w' ⟨rfl, rfl⟩)
    go_ret
    exact ⟨ret_bool (by rw [HV.out]; simp [*]), ((Below.refl _ _).alloc (Nat.le_refl _) _).alloc (by simp) _⟩
set_option maxHeartbeats 2000000 in
theorem refFits_any (j : Job) (n : Nit) (w : World) : Calls Try.prog 35 #[.agg #[.int .i64 j.n, .int .i64 j.road, .int .i64 j.chain, .int .i64 j.first, .int .i64 j.last, .int .i64 j.crew, .bool j.dry, .bool j.warm], .agg #[.int .i64 n.day, .int .i64 n.road, .int .i64 n.lo, .int .i64 n.hi, .int .i64 n.crew, .int .i64 n.pl, .bool n.rain, .bool n.frost]] w fun e w' => e = .returned (.bool (fitsF j n)) ∧ Below w.heap.size w w' := by
  have HV : Hid (fitsF j n = (decide (j.road = n.road) && decide (j.crew = n.crew) && inB j.first n.day j.last && inB n.lo j.chain n.hi && !(j.dry && n.rain) && !(j.warm && n.frost))) := rfl
  by_cases c0 : j.road = n.road
  case neg =>
    go_enter Try.func35, Try.ntmps35
    go_wp2_with (go_at_call 72; refine (from_any _ _ _ _).mono ?_; rintro e w' ⟨rfl, rfl⟩)
    go_ret
    exact ⟨ret_bool (by rw [HV.out]; simp [*]), ((Below.refl _ _).alloc (Nat.le_refl _) _).alloc (by simp) _⟩
  by_cases c1 : j.crew = n.crew
  case neg =>
    go_enter Try.func35, Try.ntmps35
    go_wp2_with (go_at_call 72; refine (from_any _ _ _ _).mono ?_; rintro e w' ⟨rfl, rfl⟩)
    go_ret
    exact ⟨ret_bool (by rw [HV.out]; simp [*]), ((Below.refl _ _).alloc (Nat.le_refl _) _).alloc (by simp) _⟩
  cases c2 : inB j.first n.day j.last
  case false =>
    go_enter Try.func35, Try.ntmps35
    go_wp2_with (go_at_call 72; refine (from_any _ _ _ _).mono ?_; rintro e w' ⟨rfl, rfl⟩)
    go_ret
    exact ⟨ret_bool (by rw [HV.out]; simp [*]), ((Below.refl _ _).alloc (Nat.le_refl _) _).alloc (by simp) _⟩
  cases c3 : inB n.lo j.chain n.hi
  case false =>
    go_enter Try.func35, Try.ntmps35
    go_wp2_with (go_at_call 72; refine (from_any _ _ _ _).mono ?_; rintro e w' ⟨rfl, rfl⟩)
    go_ret
    exact ⟨ret_bool (by rw [HV.out]; simp [*]), ((Below.refl _ _).alloc (Nat.le_refl _) _).alloc (by simp) _⟩
  cases c4 : j.dry <;> cases c5 : n.rain <;> cases c6 : j.warm <;> cases c7 : n.frost
  all_goals
    go_enter Try.func35, Try.ntmps35
    go_wp2_with (go_at_call 72; refine (from_any _ _ _ _).mono ?_; rintro e w' ⟨rfl, rfl⟩)
    go_ret
    exact ⟨ret_bool (by rw [HV.out]; simp [*]), ((Below.refl _ _).alloc (Nat.le_refl _) _).alloc (by simp) _⟩
end Go.Proofs.Ytkcfalehebacpaa
