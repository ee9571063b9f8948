/- Times: the plain law of ShopTimes and of ShopHolidays' times. -/
import Derived.Test.YtcpnfcnobnjhdaaHoursP
namespace Go.Proofs.Ytcpnfcnobnjhdaa
theorem least_from {P : Int → Prop} [DecidablePred P] {t : Int} : ∀ n : Nat, P (t + n) → ∃ r, t ≤ r ∧ r ≤ t + n ∧ P r ∧ ∀ r', t ≤ r' → r' < r → ¬ P r'
  | 0, h => ⟨t, Int.le_refl _, by omega, by simpa using h, fun r' h1 h2 => by omega⟩
  | n + 1, h => by
    by_cases hs : ∃ k : Nat, k ≤ n ∧ P (t + k)
    · obtain ⟨k, hk, hp⟩ := hs
      have hk' : k < n + 1 := by omega
      obtain ⟨r, a, b, c⟩ := least_from k hp
      exact ⟨r, a, by omega, c⟩
    · refine ⟨t + (n + 1 : Nat), by omega, by omega, h, fun r' h1 h2 hp => hs ⟨(r' - t).toNat, by omega, ?_⟩⟩
      rw [show t + ((r' - t).toNat : Int) = r' by omega]; exact hp
theorem next_ex {p : Shop} (hv : VShop p) {t m : Int} (ht : 0 ≤ t) (hm : m ≤ p.cl - p.op) : ∃ r, IsNext p t m r ∧ r ≤ 1440 * max 10001 (t / 1440 + 1) + p.op := by
  have v1 := hv.op0
  have v2 := hv.opcl
  have v3 := hv.cl
  generalize hD : max 10001 (t / 1440 + 1) = D
  have hh : hasB p.hol D = false := by
    rw [← Bool.not_eq_true]
    intro h
    have := (has_bd hv h).2
    omega
  have hs : shiftB p (1440 * D + p.op) m = true := by
    rw [shiftB_iff]
    rw [show (1440 * D + p.op) / 1440 = D by omega, show (1440 * D + p.op) % 1440 = p.op by omega]
    exact ⟨hh, Int.le_refl _, by omega⟩
  obtain ⟨r, a, b, c, d⟩ := least_from (P := fun r => shiftB p r m = true) (t := t) (1440 * D + p.op - t).toNat (by
    rw [show t + ((1440 * D + p.op - t).toNat : Int) = 1440 * D + p.op by omega]; exact hs)
  exact ⟨r, ⟨a, c, fun r' h1 h2 => Bool.not_eq_true _ ▸ d r' h1 h2⟩, by omega⟩
theorem next_is {p : Shop} (hv : VShop p) {t m : Int} (ht : 0 ≤ t) (hm : m ≤ p.cl - p.op) : IsNext p t m (nextF p t m) ∧ nextF p t m ≤ 1440 * max 10001 (t / 1440 + 1) + p.op := by
  obtain ⟨r, h, hb⟩ := next_ex hv ht hm
  rw [next_eq h]
  exact ⟨h, hb⟩
theorem next_ge {p : Shop} (hv : VShop p) {t m : Int} (ht : 0 ≤ t) (hm : m ≤ p.cl - p.op) : t ≤ nextF p t m := (next_is hv ht hm).1.1
theorem next_mono {p : Shop} (hv : VShop p) {t u m : Int} (ht : 0 ≤ t) (htu : t ≤ u) (hm : m ≤ p.cl - p.op) : nextF p t m ≤ nextF p u m := by
  have h1 := (next_is hv ht hm).1
  have h2 := (next_is hv (t := u) (by omega) hm).1
  rcases Int.lt_or_le (nextF p u m) (nextF p t m) with h | h
  · have := h1.2.2 (nextF p u m) (by have := h2.1; omega) h
    rw [h2.2.1] at this; cases this
  · exact h
theorem after_ge {p : Shop} (hv : VShop p) {t m : Int} (ht : 0 ≤ t) (hm : 0 ≤ m) : t ≤ afterF p t m := by
  by_cases h : m = 0
  · subst h; rw [after_zero]; exact Int.le_refl _
  · have := (after_is hv ht (m := m) (by omega)).2.1; omega
theorem after_bd {p : Shop} (hv : VShop p) {t m : Int} (ht : 0 ≤ t) (hm : 0 ≤ m) (hm' : m ≤ 1000000000) : afterF p t m ≤ t + m * 1440 + 1440 * 405 := by
  by_cases h : m = 0
  · subst h; rw [after_zero]; omega
  · have := (after_is hv ht (m := m) (by omega)).2.2
    have := (far_bd hv ht hm hm').1
    omega
theorem after_worked {p : Shop} (hv : VShop p) {t m : Int} (ht : 0 ≤ t) (hm : 0 ≤ m) : oB p (afterF p t m) - oB p t = m := by
  by_cases h : m = 0
  · subst h; rw [after_zero]; omega
  · obtain ⟨⟨h1, h2⟩, h3, _⟩ := after_is hv ht (m := m) (by omega)
    have h4 := h2 (afterF p t m - 1) (by omega)
    have h5 := (oB_mono hv (t := afterF p t m - 1) (u := afterF p t m) (by omega)).2
    omega
end Go.Proofs.Ytcpnfcnobnjhdaa
