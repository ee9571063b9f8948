/- NightChoices: the walk. -/
import Derived.Test.YtkcfalehebacpaaNRefChoose
import Derived.Test.YtkcfalehebacpaaNLaw2
namespace Go.Proofs.Ytkcfalehebacpaa
open Go Go.RowKit
theorem SlcIn.slc {w : World} {A : Option Addr} {l : List Int} {B : Nat} (h : SlcIn (fun b => b < B) w A l) : Slc intEnc 1 w B A l := fun i x hx => by
  obtain ⟨b, off, h1, h2, h3⟩ := h i x hx
  refine ⟨b, off, h1, h2, fun j v hv => ?_⟩
  cases j with
  | zero => simp [intEnc] at hv; subst hv; simpa using h3
  | succ j => simp [intEnc] at hv
theorem Nest.on {w w' : World} {A : Option Addr} {C : List (List Int)} (h : NestIn (fun b => b < w.heap.size) w A C) (hb : Below w.heap.size w w') : NestIn (fun b => b < w'.heap.size) w' A C := fun i l hl => by
  obtain ⟨b, off, A', c', h1, h2, h3, h4⟩ := h.wit hb (fun b h => h) i l hl
  refine ⟨b, off, A', c', h1, Nat.lt_of_lt_of_le h2 hb.size, h3, fun j x hx => ?_⟩
  obtain ⟨b2, off2, g1, g2, g3⟩ := h4 j x hx
  exact ⟨b2, off2, g1, Nat.lt_of_lt_of_le g2 hb.size, g3⟩
end Go.Proofs.Ytkcfalehebacpaa
