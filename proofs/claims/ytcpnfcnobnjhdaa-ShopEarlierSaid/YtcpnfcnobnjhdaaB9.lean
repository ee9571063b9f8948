/- Parts of the proofs of this seat: OpenPlan. Each part says what it proves; no condition beyond those stated there. -/
import Derived.Test.YtcpnfcnobnjhdaaB6
import Derived.Test.YtcpnfcnobnjhdaaB8

/- Opener of plans. -/
namespace Go.Proofs.Ytcpnfcnobnjhdaa
open Go.RowKit Go.ChangeShapes Go.WideShapes
def IsPlan (w : World) (cs : List Value) : Prop := ∃ A c, ∃ pl : List (List Int), cs = [.slice A pl.length c] ∧ pl.length ≤ maxLen ∧ Plan w w.heap.size A pl ∧ ∀ l ∈ pl, l.length ≤ maxLen
theorem o_plan : Opens Try.prog 44 1 IsPlan := by
  refine (opens_slice Try.underlying44 (by kernel_rfl) (by omega) o_ints).imp fun w cs h => ?_
  obtain ⟨A, len, cap, rfl, hl, hi⟩ := h
  obtain ⟨js, hx, hp⟩ := list_of (fun i (l : List Int) => l.length ≤ maxLen ∧ ∃ b off A' c', A = some ⟨b, off, none⟩ ∧ b < w.heap.size ∧ w.cell? ⟨b, off + i, none⟩ = some (.slice A' l.length c') ∧ Slc intEnc 1 w w.heap.size A' l) len fun i hil => by
    obtain ⟨vs, ⟨b, off, hA, hb, hc⟩, A', c', l, rfl, hl, hS, _⟩ := hi i hil
    exact ⟨l, hl, b, off, A', c', hA, hb, by simpa using hc 0 _ rfl, hS⟩
  subst hx
  refine ⟨A, cap, js, rfl, hl, fun i l hli => (hp i l hli).2, fun l hl => ?_⟩
  obtain ⟨i, hi⟩ := List.getElem?_of_mem hl
  exact (hp i l hi).1
set_option maxRecDepth 100000 in
theorem arg_plan {r : Reach} {b0 : Nat} {H : Type} {enc : TypeId × Value → H} {w : World} {base : Nat} {spare : Nat → Bool} {held : Bool} {v : Value} {d : DataW H} {p : List MemPlace} (hv : Value.okWide Try.prog w r b0 44 v) (h : DataW.Trod enc Try.prog w base spare held 44 v d p) :
    ∃ A c, ∃ pl : List (List Int), v = .slice A pl.length c ∧ Plan w w.heap.size A pl ∧ PFits pl := by
  obtain ⟨a, len, cap, rfl⟩ := okWide_slice Try.underlying44 hv
  obtain ⟨A, c, pl, h1, h2, h3, h4⟩ := (opens_arg o_plan h).2
  unfold maxLen at h2 h4
  refine ⟨A, c, pl, by simpa [Value.cells] using h1, h3, ⟨by omega, fun l hl => by have := h4 l hl; omega⟩⟩
end Go.Proofs.Ytcpnfcnobnjhdaa
