/- Clear: the plain law. The least offset at which 'need' places without a fault begin. -/
import Derived.Test.YtnejacogflkmmaaLib
namespace Go.Proofs.Ytnejacogflkmmaa

/-- no fault has a place from p to less than p + n -/
def freeB (fs : List Pt) (p n : Int) : Bool := fs.all fun f => !(decide (f.a < f.b) && decide (f.a < p + n) && decide (p < f.b))
/-- the fault stands in the way -/
def hits (f : Pt) (p n : Int) : Prop := f.a < f.b ∧ f.a < p + n ∧ p < f.b

theorem freeB_iff (fs : List Pt) (p n : Int) : freeB fs p n = true ↔ ∀ (i : Nat) f, fs[i]? = some f → ¬ hits f p n := by
  unfold freeB hits
  rw [List.all_eq_true]
  constructor
  · intro h i f hf
    have := h f (List.mem_of_getElem? hf)
    simp at this
    omega
  · intro h f hf
    obtain ⟨i, hi⟩ := List.getElem?_of_mem hf
    have := h i f hi
    simp
    omega
theorem free_of {fs : List Pt} {p n : Int} (h : ∀ (i : Nat) f, fs[i]? = some f → ¬ hits f p n) : freeB fs p n = true := (freeB_iff _ _ _).2 h
theorem not_free {fs : List Pt} {p n : Int} {i : Nat} {f : Pt} (hf : fs[i]? = some f) (h : hits f p n) : freeB fs p n = false := by
  cases hb : freeB fs p n
  · rfl
  · exact absurd h ((freeB_iff _ _ _).1 hb i f hf)

/-- r is the least free offset, or there is none -/
def IsClear (l : Int) (fs : List Pt) (n : Int) : Option Int → Prop
  | some p => 1 ≤ n ∧ 0 ≤ p ∧ p ≤ l - n ∧ freeB fs p n = true ∧ ∀ q, 0 ≤ q → q < p → freeB fs q n = false
  | none => n < 1 ∨ l < n ∨ ∀ q, 0 ≤ q → q ≤ l - n → freeB fs q n = false

theorem IsClear.unique {l : Int} {fs : List Pt} {n : Int} {r s : Option Int} (h : IsClear l fs n r) (k : IsClear l fs n s) : r = s := by
  cases r with
  | none =>
    cases s with
    | none => rfl
    | some q =>
      simp only [IsClear] at h k
      obtain ⟨k1, k2, k3, k4, k5⟩ := k
      rcases h with h | h | h
      · omega
      · omega
      · rw [h q k2 k3] at k4; cases k4
  | some p =>
    cases s with
    | none =>
      simp only [IsClear] at h k
      obtain ⟨k1, k2, k3, k4, k5⟩ := h
      rcases k with h | h | h
      · omega
      · omega
      · rw [h p k2 k3] at k4; cases k4
    | some q =>
      simp only [IsClear] at h k
      obtain ⟨h1, h2, h3, h4, h5⟩ := h
      obtain ⟨k1, k2, k3, k4, k5⟩ := k
      have : p = q := by
        rcases Int.lt_trichotomy p q with e | e | e
        · rw [k5 p h2 e] at h4; cases h4
        · exact e
        · rw [h5 q k2 e] at k4; cases k4
      rw [this]

open Classical in
noncomputable def clear (l : Int) (fs : List Pt) (n : Int) : Option Int := if h : ∃ r, IsClear l fs n r then h.choose else none
theorem clear_eq {l : Int} {fs : List Pt} {n : Int} {r : Option Int} (h : IsClear l fs n r) : clear l fs n = r := by
  unfold clear
  rw [dif_pos ⟨r, h⟩]
  exact IsClear.unique (Exists.choose_spec ⟨r, h⟩) h
/-- what Go's two results are -/
noncomputable def clearVal (l : Int) (fs : List Pt) (n : Int) : Value := .tuple #[.int .i64 ((clear l fs n).getD 0), .bool (clear l fs n).isSome]
theorem clear_none_val {l : Int} {fs : List Pt} {n : Int} (h : IsClear l fs n none) : Ending.returned (.tuple #[.int .i64 0, .bool false]) = .returned (clearVal l fs n) := by
  unfold clearVal; rw [clear_eq h]; rfl
theorem clear_some_val {l : Int} {fs : List Pt} {n p : Int} (h : IsClear l fs n (some p)) : Ending.returned (.tuple #[.int .i64 p, .bool true]) = .returned (clearVal l fs n) := by
  unfold clearVal; rw [clear_eq h]; rfl
end Go.Proofs.Ytnejacogflkmmaa
