/- NightBounds: the walk. -/
import Derived.Test.YtkcfalehebacpaaNBounds
import Derived.Test.YtkcfalehebacpaaNOpen
namespace Go.Proofs.Ytkcfalehebacpaa
open Go Go.RowKit
theorem valid_zero {js : List Job} {ns : List Nit} (h : validB js ns = true) : wrongF js ns = 0 := of_decide_eq_true h
theorem places_is (AJ : Option Addr) (cJ : Nat) (js : List Job) (AN : Option Addr) (cN : Nat) (ns : List Nit) (AL : Option Addr) (cL : Nat) (l : List Int) (w : World) (hJ : Slc Job.enc 8 w w.heap.size AJ js) (hN : Slc Nit.enc 8 w w.heap.size AN ns) (hL : Slc intEnc 1 w w.heap.size AL l)
    (hl2 : ns.length ≤ 1000) (hl3 : l.length ≤ 1000) (hn : ∀ n ∈ ns, nitOk n = true) (hl : idxF js.length (-1) l = true) {v : Int} (hv : placesF js ns l = v) :
    Calls Try.prog 13 #[.slice AJ js.length cJ, .slice AN ns.length cN, .slice AL l.length cL] w fun e w' => e = .returned (.int .i64 v) ∧ Below w.heap.size w w' := by
  subst hv; exact places_any AJ cJ js AN cN ns AL cL l w hJ hN hL hl2 hl3 hn hl
theorem Slc.on {α : Type} {enc : α → List Value} {sz : Nat} {w w' : World} {A : Option Addr} {xs : List α} (h : Slc enc sz w w.heap.size A xs) (hb : Below w.heap.size w w') : Slc enc sz w' w'.heap.size A xs := (h.below hb).more hb.size
end Go.Proofs.Ytkcfalehebacpaa
