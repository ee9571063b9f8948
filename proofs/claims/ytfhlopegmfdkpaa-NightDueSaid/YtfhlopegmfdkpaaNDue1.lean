/- Faces that fall due: the small functions of package light and of its reference. -/
import Derived.Test.YtfhlopegmfdkpaaNFits
namespace Go.Proofs.Ytfhlopegmfdkpaa
open Go Go.RowKit
theorem lwithin_any (a n b : Int) (w : World) : Calls Try.prog 85 #[.int .i64 a, .int .i64 n, .int .i64 b] w fun e w' => e = .returned (.bool (inB a n b)) ∧ w = w' := by
  have H : Hid (inB a n b = (decide (a ≤ n) && decide (n ≤ b))) := rfl
  by_cases h1 : a ≤ n
  · go_enter Try.func85, Try.ntmps85
    go_wp2
    all_goals go_ret; rw [H.out]; simp [*]; try omega
  · go_enter Try.func85, Try.ntmps85
    go_wp2
    go_ret; rw [H.out]; simp; omega
theorem rwithin_any (a n b : Int) (w : World) : Calls Try.prog 88 #[.int .i64 n, .int .i64 a, .int .i64 b] w fun e w' => e = .returned (.bool (inB a n b)) ∧ w = w' := by
  have H : Hid (inB a n b = (decide (a ≤ n) && decide (n ≤ b))) := rfl
  by_cases h1 : a ≤ n
  · go_enter Try.func88, Try.ntmps88
    go_wp2
    all_goals go_ret; rw [H.out]; simp [*]; try omega
  · go_enter Try.func88, Try.ntmps88
    go_wp2
    go_ret; rw [H.out]; simp; omega
theorem aged1_any (r k : Int) (w : World) (hr : 0 ≤ r ∧ r ≤ 100000) (hk : 0 ≤ k ∧ k ≤ 1000) : Calls Try.prog 86 #[.int .i64 r, .int .i64 k, .int .i64 1] w fun e w' => e = .returned (.int .i64 (r * k / 1000)) ∧ w = w' := by
  have hm0 : 0 ≤ r * k := Int.mul_nonneg hr.1 hk.1
  have hm1 : r * k ≤ 100000 * 1000 := Int.mul_le_mul hr.2 hk.2 hk.1 (by omega)
  have e1 : IntKind.i64.wrap (r * k) = r * k := IntWalk.i64_in _ (by omega)
  have e2 : (r * k).tdiv 1000 = r * k / 1000 := Int.tdiv_eq_ediv_of_nonneg hm0
  have e3 : IntKind.i64.wrap (r * k / 1000) = r * k / 1000 := IntWalk.i64_in _ (by omega)
  go_enter Try.func86, Try.ntmps86
  go_wp2_with fail
  go_loopw [0, 8] (fun x y W => w = W ∧ ((x = .int .i64 r ∧ y = .int .i64 0) ∨ (x = .int .i64 (r * k / 1000) ∧ y = .int .i64 1))) (fun _ y _ => 1 - (intOf y).toNat)
  case atStart => exact ⟨rfl, .inl ⟨rfl, rfl⟩⟩
  case round =>
    obtain ⟨rfl, ⟨rfl, rfl⟩ | ⟨rfl, rfl⟩⟩ := hrel
    · go_wp2_with fail
      go_roundw
      case rel => exact ⟨by simp, .inr ⟨rfl, by go_num⟩⟩
      case measure => simp [intOf]
    · go_wp2_with fail
      go_ret
      exact ⟨rfl, rfl⟩
structure Ms where
  day : Int
  r : Int
def Ms.enc (x : Ms) : List Value := [.int .i64 x.day, .int .i64 x.r]
def msB : Option Int → List Ms → Bool
  | _, [] => true
  | p, x :: r => inB 0 x.day 100000 && inB 0 x.r 100000 && (match p with | some d => decide (d < x.day) | none => true) && msB (some x.day) r
def kOk (k0 k1 k2 k3 : Int) : Bool := inB 0 k0 1000 && inB 0 k1 1000 && inB 0 k2 1000 && inB 0 k3 1000
def measB (k0 k1 k2 k3 side : Int) (ms : List Ms) : Bool := inB 0 side 3 && decide (1 ≤ ms.length ∧ ms.length ≤ 50) && kOk k0 k1 k2 k3 && msB none ms
end Go.Proofs.Ytfhlopegmfdkpaa
