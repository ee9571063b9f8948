/-
  DERIVED. GIVEN WITH THE SEED: THE CARDS: each row of YtkcfalehebacpaaDoorRows.lean that lists a variable, with what it lists TIED to the program's text (the seventh form; the later family's looks); each row that meets fmt, with fmt's text TOLD by the authors' own Lean function (tested against real Go, not proved from fmt's source: count such statements apart). THE CARD IS WHAT COUNTS. Prove the row's statement (the work); the ties are given (YtkcfalehebacpaaDoorTie.lean); close each card by the builder's one call (the guide's Derived/Test/ToyasCard.lean, 'card_holds'). Laid BY PROGRAM, IN A SANDBOX (cutbox-door.mjs). By AI agents, Wed Nov 11 2026. No macro, syntax, notation, axiom, sorry.
-/
import Derived.Test.YtkcfalehebacpaaDoorRows
import GoSem.ClaimSeven
namespace Go.Proofs.YtkcfalehebacpaaDoor
namespace Rows

/-- THE TIED CARD OF 'blazontop.TopBound'. -/
def topBoundCard : Claim7 := { stood := { row := topBoundRow, standIns := [], harness := (true, "9068b87000b4362756e514d465c7092402f7f07f7405457f5def35bee1e46a84"), looks := true }, kinds := [], alts := [], laidByText := true, laidKinds := [.data, .data, .data, .sentinel, .sentinel], laidTests := true, laidLooks := .later }
def TopBoundCardSaid : Prop := Claim7.holds Tryd.pinned (.plain (OpenSpec.ofChange topBoundSpec)) topBoundCard

/-- THE SECOND FORM's CARD OF 'blazontop.TopBound'. -/
def topBoundUptoCard : Claim7 := { stood := { row := topBoundUptoRow, standIns := [], harness := (true, "9068b87000b4362756e514d465c7092402f7f07f7405457f5def35bee1e46a84"), looks := true }, kinds := [], alts := [], laidByText := true, laidKinds := [.data, .data, .data, .sentinel, .sentinel], laidTests := true, laidLooks := .later }
def TopBoundUptoCardSaid : Prop := Claim7.holds Tryd.pinned (.plain (OpenSpec.upto topBoundSpec)) topBoundUptoCard
end Rows
end Go.Proofs.YtkcfalehebacpaaDoor
