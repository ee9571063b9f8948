/- The reference's Choices; sameInts; Choices: the walks. -/
import Derived.Test.YtkcfalehebacpaaNBounds
namespace Go.Proofs.Ytkcfalehebacpaa
open Go Go.RowKit
theorem own_belowB {α : Type} {w w' : World} {base B : Nat} {e : TypeId} {sz : Nat} {f : α → List Value} {v : Value} {l : List α} (h : Own w base e sz f v l) (hb : Below B w w') (hlt : ∀ k, v.ownBlock = some k → k < B) : Own w' base e sz f v l := by
  refine ⟨h.1, ?_⟩
  rcases h.2 with h1 | ⟨g, cap, cur, h1, h2, h3, h4⟩
  · exact .inl h1
  · exact .inr ⟨g, cap, cur, h1, h2, (hb.block g (hlt g (by rw [h1]; rfl))).trans h3, h4⟩
theorem own_grown {α : Type} {w w' : World} {base : Nat} {e : TypeId} {sz : Nat} {f : α → List Value} {v u : Value} {l : List α} (h : Own w base e sz f v l) (hg : w.grownBy w' u.ownBlock) (hne : ∀ k, u.ownBlock = some k → v.ownBlock ≠ some k) : Own w' base e sz f v l :=
  World.ownsRow.kept h hg (by
    cases hv : v.ownBlock with
    | none => exact .inl rfl
    | some q => exact .inr fun he => hne q he.symm hv)
/-- rows that the call owns -/
def RowsOwn (w : World) (base : Nat) (ns : List Nit) (js : List Job) (rs : List Rw) : Prop :=
  ∀ (q : Nat) r, rs[q]? = some r → ∃ j, js[q]? = some j ∧ r.2.1 = (chooseF ns j).length ∧ Own w base 3 1 intEnc (rwV r) (chooseF ns j)
theorem RowsOwn.belowB {w w' : World} {base B : Nat} {ns : List Nit} {js : List Job} {rs : List Rw} (h : RowsOwn w base ns js rs) (hb : Below B w w') (hB : w.heap.size ≤ B) : RowsOwn w' base ns js rs := fun q r hr => by
  obtain ⟨j, h1, h2, h3⟩ := h q r hr
  exact ⟨j, h1, h2, own_belowB h3 hb fun k hk => Nat.lt_of_lt_of_le (own_ge h3 k hk).2 hB⟩
def RefChoosePost (ns : List Nit) (js : List Job) (w : World) (e : Ending) (w' : World) : Prop :=
  ∃ A c, ∃ C : List (List Int), e = .returned (.tuple #[.slice A C.length c, .int .i64 (wrongF js ns)]) ∧ Below w.heap.size w w' ∧ NestIn (fun b => b < w'.heap.size) w' A C ∧ C = if wrongF js ns = 0 then chooseL ns js else []
theorem rows_nest_of {w : World} {base : Nat} {ns : List Nit} {js : List Job} {rs : List Rw} {A : Option Addr} (hS : Slc rwEnc 1 w w.heap.size A rs) (hR : RowsOwn w base ns js rs) (hl : rs.length = js.length) : NestIn (fun b => b < w.heap.size) w A (chooseL ns js) := fun i l hi => by
  obtain ⟨j, hj, rfl⟩ := chooseL_get hi
  have hir : i < rs.length := by rw [hl]; exact (List.getElem?_eq_some_iff.1 hj).1
  obtain ⟨j', h1, h2, h3⟩ := hR i rs[i] (List.getElem?_eq_getElem hir)
  rw [hj] at h1
  injection h1 with h1
  subst h1
  obtain ⟨b, off, hA, hb, hc⟩ := hS i _ (List.getElem?_eq_getElem hir)
  have hcell := hc 0 (rwV rs[i]) rfl
  obtain ⟨A', c', hv, hS'⟩ := h3.form fun _ => rfl
  rw [hv, Nat.mul_one, Nat.add_zero] at hcell
  refine ⟨b, off, A', c', hA, hb, hcell, fun k x hx => ?_⟩
  obtain ⟨b', off', g1, g2, g3⟩ := hS' k x hx
  exact ⟨b', off', g1, g2, by simpa using g3 0 (.int .i64 x) rfl⟩
/-- the same lists -/
def sameB (a b : List Int) : Bool := decide (a = b)
end Go.Proofs.Ytkcfalehebacpaa
