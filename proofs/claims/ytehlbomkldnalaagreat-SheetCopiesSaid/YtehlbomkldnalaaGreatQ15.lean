/- Parts of the proofs of this seat: CompP. Each part says what it proves; no condition beyond those stated there. -/
import Derived.Lib.SlicesCompact
import Derived.Test.YtehlbomkldnalaaGreatQ4

/- What is sorted and made unique, plain. -/
namespace Go.Proofs.YtehlbomkldnalaaGreat
open Go Go.Lib
theorem compact_upto {zs : List Int} (hs : zs.Pairwise (· ≤ ·)) : ∀ m, m ≤ zs.length → (compactUpTo zs.toArray m).Pairwise (· < ·) ∧ (∀ z, z ∈ compactUpTo zs.toArray m ↔ z ∈ zs.take m) ∧ ∀ z ∈ compactUpTo zs.toArray m, ∀ j (hj : j < zs.length), m ≤ j + 1 → z ≤ zs[j]
 | 0, _ => ⟨by simp [compactUpTo], by simp [compactUpTo], by simp [compactUpTo]⟩
 | m + 1, hm => by
  obtain ⟨h1, h2, h3⟩ := compact_upto hs m (by omega)
  have hmz : m < zs.length := by omega
  have e0 : zs.toArray[m]! = zs[m] := by rw [getElem!_pos zs.toArray m (by simpa using hmz)]; simp
  have hpw := List.pairwise_iff_getElem.1 hs
  rw [compactUpTo_succ]
  cases hk : keeps zs.toArray m with
  | true =>
   rw [if_pos rfl, e0]
   have hlt : ∀ z ∈ compactUpTo zs.toArray m, z < zs[m] := fun z hz => by
    rcases Nat.eq_zero_or_pos m with h0 | h0
    ·subst h0; simp [compactUpTo] at hz
    ·have a1 := h3 z hz (m - 1) (by omega) (by omega)
     have a2 := hpw (m - 1) m (by omega) hmz (by omega)
     have a3 : zs[m]'hmz ≠ zs[m - 1]'(by omega) := by
      unfold keeps at hk
      rw [decide_eq_true_eq] at hk
      rcases hk with hk | hk
      ·omega
      ·rw [e0, getElem!_pos zs.toArray (m - 1) (by simpa using (by omega : m - 1 < zs.length))] at hk
       simpa using hk
     omega
   refine ⟨List.pairwise_append.2 ⟨h1, by simp, fun a ha b hb => ?_⟩, fun z => ?_, fun z hz j hj hmj => ?_⟩
   ·rw [List.mem_singleton] at hb
    rw [hb]; exact hlt a ha
   ·rw [List.mem_append, h2, List.take_add_one, List.getElem?_eq_getElem hmz, Option.toList_some, List.mem_append]
   ·rcases List.mem_append.1 hz with hz | hz
    ·have a1 := hlt z hz
     rcases Nat.eq_or_lt_of_le (show m ≤ j by omega) with e | e
     ·subst e; omega
     ·have := hpw m j hmz hj e; omega
    ·rw [List.mem_singleton] at hz
     subst hz
     rcases Nat.eq_or_lt_of_le (show m ≤ j by omega) with e | e
     ·subst e; omega
     ·exact hpw m j hmz hj e
  | false =>
   rw [if_neg (by decide), List.append_nil]
   have h0 : m ≠ 0 ∧ zs[m]'hmz = zs[m - 1]'(by omega) := by
    unfold keeps at hk
    rw [decide_eq_false_iff_not, not_or] at hk
    obtain ⟨k1, k2⟩ := hk
    refine ⟨k1, ?_⟩
    rw [e0, getElem!_pos zs.toArray (m - 1) (by simpa using (by omega : m - 1 < zs.length))] at k2
    have k3 : ¬ zs[m]'hmz ≠ zs[m - 1]'(by omega) := by simpa using k2
    omega
   refine ⟨h1, fun z => ?_, fun z hz j hj hmj => h3 z hz j hj (by omega)⟩
   rw [h2, List.take_add_one, List.getElem?_eq_getElem hmz, Option.toList_some, List.mem_append, List.mem_singleton]
   refine ⟨.inl, fun h => ?_⟩
   rcases h with h | h
   ·exact h
   ·rw [h, h0.2]
    refine List.mem_iff_getElem.2 ⟨m - 1, ?_, ?_⟩
    ·rw [List.length_take]; omega
    ·rw [List.getElem_take]
theorem compact_ok {zs : List Int} (hs : zs.Pairwise (· ≤ ·)) : (compact zs).Pairwise (· < ·) ∧ ∀ z, z ∈ compact zs ↔ z ∈ zs := by
 obtain ⟨h1, h2, _⟩ := compact_upto hs zs.length (Nat.le_refl _)
 refine ⟨h1, fun z => (h2 z).trans ?_⟩
 rw [List.take_length]
/-- the uses in ascending order, each once: the document's way and the program's -/
theorem uses_same (us : List Int) : compact (us.mergeSort fun x y => decide (x ≤ y)) = us.foldl putU [] := by
 have hs : (us.mergeSort fun x y => decide (x ≤ y)).Pairwise (· ≤ ·) := by
  have h := List.pairwise_mergeSort (le := fun x y : Int => decide (x ≤ y)) (fun a b c h1 h2 => by simp at h1 h2 ⊢; omega) (fun a b => by simp; omega) us
  exact h.imp fun h => by simpa using h
 obtain ⟨h1, h2⟩ := compact_ok hs
 obtain ⟨h3, h4⟩ := putU_all us [] List.Pairwise.nil
 refine sorted_unique (key := id) h1 h3 fun z => ?_
 rw [h2, h4, List.mem_mergeSort]
 simp
end Go.Proofs.YtehlbomkldnalaaGreat
