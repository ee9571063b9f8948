/- A plan as an argument. -/
import Derived.Test.YtecaaimaeaocbaaDoorKOpen3
import Derived.Test.YtecaaimaeaocbaaDoorKCheckP
namespace Go.Proofs.YtecaaimaeaocbaaDoor
open Go.RowKit
theorem plan_of {w : World} {A : Option Addr} {bs : List Bt} (hS : Slc Bt.enc 2 w w.heap.size A bs) (hI : ∀ (i : Nat) x, bs[i]? = some x → BtIn w x) : ∃ pl : List Bat, PlanAt w A bs pl := by
  obtain ⟨pl, hl, hp⟩ := list_of (fun i (p : Bat) => ∀ b, bs[i]? = some b → b.t = p.t ∧ b.n = p.ps.length ∧ Slc intEnc 1 w w.heap.size b.A p.ps) bs.length fun i hi => by
    have hb : bs[i]? = some bs[i] := List.getElem?_eq_getElem hi
    obtain ⟨ps, h1, _, h3⟩ := hI i _ hb
    exact ⟨⟨bs[i].t, ps⟩, fun b hb2 => by
      rw [hb] at hb2
      injection hb2 with hb2
      subst hb2; exact ⟨rfl, h1.symm, h3⟩⟩
  exact ⟨pl, hS, hl.symm, fun i b p h1 h2 => hp i p h2 b h1⟩
end Go.Proofs.YtecaaimaeaocbaaDoor
