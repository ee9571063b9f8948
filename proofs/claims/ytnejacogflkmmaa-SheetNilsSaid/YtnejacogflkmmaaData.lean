/- Go's structs of package api as plain structures. -/
import Derived.Test.YtnejacogflkmmaaLib
namespace Go.Proofs.Ytnejacogflkmmaa
structure Roll where
  id : Int
  grade : Int
  colour : Int
  lot : Int
  made : Int
  width : Int
  length : Int
  faults : List Pt
structure Shelf where
  minWidth : Int
  minLength : Int
  l0 : Int
  l1 : Int
  l2 : Int
def inB (a n b : Int) : Bool := decide (a ≤ n) && decide (n ≤ b)
theorem inB_iff {a n b : Int} : inB a n b = true ↔ a ≤ n ∧ n ≤ b := by simp [inB]
theorem inB_false {a n b : Int} : inB a n b = false ↔ n < a ∨ b < n := by simp [inB]; omega
/-- the faults ascend from 'last' on, and end by 'len' -/
def spansOk (len : Int) : Int → List Pt → Bool
  | _, [] => true
  | last, f :: r => !(decide (f.a < last) || decide (f.b ≤ f.a) || decide (len < f.b)) && spansOk len f.b r
def validRoll (r : Roll) : Bool :=
  inB 1 r.id 1000000000 && inB 1 r.grade 3 && inB 1 r.colour 7 && inB 1 r.lot 1000000000 && inB 0 r.made 100000 && inB 1 r.width 150 && inB 1 r.length 6000 &&
    decide (r.faults.length ≤ 16) && spansOk r.length 0 r.faults
def validRules (s : Shelf) : Bool := inB 0 s.l0 100000 && inB 0 s.l1 100000 && inB 0 s.l2 100000 && inB 1 s.minWidth 1000 && inB 1 s.minLength 1000
theorem spansOk_drop {len last : Int} {fs : List Pt} {k : Nat} {f : Pt} (hk : fs[k]? = some f) :
    spansOk len last (fs.drop k) = (!(decide (f.a < last) || decide (f.b ≤ f.a) || decide (len < f.b)) && spansOk len f.b (fs.drop (k + 1))) := by
  have h := (List.getElem?_eq_some_iff.1 hk)
  obtain ⟨hl, hf⟩ := h
  rw [List.drop_eq_getElem_cons hl, hf]; rfl
theorem spansOk_bad {len last : Int} {fs : List Pt} {k : Nat} {f t : Int} (hk : fs[k]? = some ⟨f, t⟩) (h : f < last ∨ t ≤ f ∨ len < t) : spansOk len last (fs.drop k) = false := by
  rw [spansOk_drop hk]
  have : (decide (f < last) || decide (t ≤ f) || decide (len < t)) = true := by simp; omega
  rw [this]; rfl
theorem spansOk_good {len last : Int} {fs : List Pt} {k : Nat} {f t : Int} (hk : fs[k]? = some ⟨f, t⟩) (h : last ≤ f ∧ f < t ∧ t ≤ len) : spansOk len last (fs.drop k) = spansOk len t (fs.drop (k + 1)) := by
  rw [spansOk_drop hk]
  have : (decide (f < last) || decide (t ≤ f) || decide (len < t)) = false := by simp; omega
  rw [this]; rfl
end Go.Proofs.Ytnejacogflkmmaa
