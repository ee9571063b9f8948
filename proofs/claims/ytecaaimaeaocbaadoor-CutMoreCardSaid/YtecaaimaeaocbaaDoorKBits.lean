/- Bits of small numbers, as the walk spells them. -/
import Derived.Test.YtecaaimaeaocbaaDoorKPackP
import Derived.WalkKit
namespace Go.Proofs.YtecaaimaeaocbaaDoor
open Go Go.RowKit
theorem wrap_small {n : Nat} (h : n < 4611686018427387904) : IntKind.i64.wrap (n : Int) = (n : Int) := IntWalk.i64_in _ (by omega)
theorem ofInt_nat (a : Nat) : BitVec.ofInt 64 (a : Int) = BitVec.ofNat 64 a := by
  apply BitVec.eq_of_toNat_eq
  simp
theorem bits_and {a b : Nat} (ha : a < 4611686018427387904) : bits .and .i64 (a : Int) (b : Int) = ((a &&& b : Nat) : Int) := by
  have h1 : a &&& b ≤ a := Nat.and_le_left
  have h2 : (BitVec.ofInt 64 (a : Int) &&& BitVec.ofInt 64 (b : Int)).toNat = a &&& b := by
    rw [ofInt_nat, ofInt_nat, BitVec.toNat_and, BitVec.toNat_ofNat, BitVec.toNat_ofNat, Nat.mod_eq_of_lt (show a < 2 ^ 64 by omega)]
    apply Nat.eq_of_testBit_eq
    intro i
    rw [Nat.testBit_and, Nat.testBit_and, Nat.testBit_mod_two_pow]
    by_cases hi : i < 64
    · simp [hi]
    · have : a.testBit i = false := Nat.testBit_lt_two_pow (Nat.lt_of_lt_of_le (show a < 2 ^ 64 by omega) (Nat.pow_le_pow_right (by omega) (by omega)))
      simp [this]
  show IntKind.i64.wrap ((BitVec.ofInt 64 (a : Int) &&& BitVec.ofInt 64 (b : Int)).toNat : Int) = _
  rw [h2]
  exact wrap_small (by omega)
theorem Sub.testBit {p : Nat} : ∀ (i : Nat) {p s : Nat}, Sub p s → (s - p).testBit i = (s.testBit i && !p.testBit i)
  | 0, p, s, h => by
    have h2 := h.diff.2
    have h3 := h.bit
    rw [Nat.testBit_zero, Nat.testBit_zero, Nat.testBit_zero, h2]
    rcases Nat.mod_two_eq_zero_or_one p with h4 | h4
    · simp [h4]
    · simp [h4, h3 h4]
  | i + 1, p, s, h => by
    have ih := Sub.testBit (p := p) i h.half
    rw [Nat.testBit_succ, h.diff.1, ih, Nat.testBit_succ, Nat.testBit_succ]
theorem bits_andNot {p s : Nat} (h : Sub p s) (hs : s < 4611686018427387904) : bits .andNot .i64 (s : Int) (p : Int) = ((s - p : Nat) : Int) := by
  have hle := h.le
  have h2 : (BitVec.ofInt 64 (s : Int) &&& ~~~BitVec.ofInt 64 (p : Int)).toNat = s - p := by
    rw [ofInt_nat, ofInt_nat]
    apply Nat.eq_of_testBit_eq
    intro i
    rw [h.testBit (p := p) i, BitVec.testBit_toNat, BitVec.getLsbD_and, BitVec.getLsbD_not, BitVec.getLsbD_ofNat, BitVec.getLsbD_ofNat]
    by_cases hi : i < 64
    · simp [hi]
    · have : s.testBit i = false := Nat.testBit_lt_two_pow (Nat.lt_of_lt_of_le (show s < 2 ^ 64 by omega) (Nat.pow_le_pow_right (by omega) (by omega)))
      simp [this]
  show IntKind.i64.wrap ((BitVec.ofInt 64 (s : Int) &&& ~~~BitVec.ofInt 64 (p : Int)).toNat : Int) = _
  rw [h2]
  exact wrap_small (by omega)
theorem bits_one {a : Nat} (ha : a < 4611686018427387904) : bits .and .i64 (a : Int) 1 = ((a % 2 : Nat) : Int) := by
  have h := bits_and (a := a) (b := 1) ha
  rw [Nat.and_one_is_mod] at h
  exact h
theorem pow_le10 {n : Nat} (h : n ≤ 10) : 2 ^ n ≤ 1024 := by
  have := Nat.pow_le_pow_right (show 0 < 2 by omega) h
  omega
end Go.Proofs.YtecaaimaeaocbaaDoor
