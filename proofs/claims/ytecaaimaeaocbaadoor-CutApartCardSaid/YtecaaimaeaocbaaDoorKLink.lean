/- Strings as lists of bytes: words, the link between walks and plain laws. -/
import Derived.Test.YtecaaimaeaocbaaDoorKRdr
namespace Go.Proofs.YtecaaimaeaocbaaDoor
open Go Go.RowKit
def byt (s : ByteArray) : Bs := s.data.toList
theorem byt_len (s : ByteArray) : (byt s).length = s.size := Array.length_toList
theorem byt_extract (s : ByteArray) (i j : Nat) : byt (s.extract i j) = ((byt s).take j).drop i := by
  unfold byt
  simp [ByteArray.data_extract, List.drop_take]
theorem pre_take (p s : Bs) : p.isPrefixOf s = (decide (p.length ≤ s.length) && (s.take p.length == p)) := by
  rw [Bool.eq_iff_iff, List.isPrefixOf_iff_prefix]
  simp only [Bool.and_eq_true, decide_eq_true_eq, beq_iff_eq]
  constructor
  · rintro ⟨t, rfl⟩
    simp
  · rintro ⟨_, h⟩
    exact ⟨s.drop p.length, by
      have e := List.take_append_drop p.length s
      rw [h] at e
      exact e⟩
theorem begB_is (s p : ByteArray) : begB s p = (byt p).isPrefixOf (byt s) := by
  unfold begB
  rw [pre_take, byt_len, byt_len, ByteArray.toList_eq, ByteArray.toList_eq]
  have := byt_extract s 0 p.size
  rw [List.drop_zero] at this
  show _ = (_ && ((byt s).take p.size == byt p))
  rw [← this]
  rfl
theorem word_is (s p : ByteArray) : wordT (byt p) (byt s) = if begB s p then some (byt (leftB s p)) else none := by
  unfold wordT leftB
  rw [← begB_is]
  cases h : begB s p with
  | false => rfl
  | true =>
    rw [if_pos rfl, if_pos rfl, if_pos rfl, byt_extract, byt_len]
    congr 2
    rw [List.take_of_length_le (by rw [byt_len]; exact Nat.le_refl _)]
theorem atB_is (s p : ByteArray) (i : Nat) : atB s p i = (byt p).isPrefixOf ((byt s).drop i) := by
  unfold atB
  rw [pre_take, List.length_drop, byt_len, byt_len, ByteArray.toList_eq, ByteArray.toList_eq]
  have := byt_extract s i (i + p.size)
  show _ = (_ && (((byt s).drop i).take p.size == byt p))
  rw [List.take_drop, ← this]
  rfl
theorem rword_is (s p : ByteArray) (i : Nat) : wordT (byt p) ((byt s).drop i) = if atB s p i then some ((byt s).drop (i + p.size)) else none := by
  unfold wordT
  rw [← atB_is]
  cases h : atB s p i with
  | false => rfl
  | true => rw [if_pos rfl, if_pos rfl, byt_len, List.drop_drop]
end Go.Proofs.YtecaaimaeaocbaaDoor
