/-
  No cell of these rows narrows 'for every input' (looked for: loops, veiled, ifaces, maps, wideKeys, modest, calm, conditions, laid).
  DERIVED. THE GIVEN ROWS OF THIS SEAT. 9 by the template 'for every input the law returns true; each argument reads behind the call as it read before'; 0 by the template 'total and deterministic' (their statements: YtnejacogflkmmaaTotals.lean).
  GIVEN WITH THE SEED: the statements are not yours to turn. If you find one false, say at which input.
  Laid BY PROGRAM, IN A SANDBOX (cutbox-rows.mjs): the forced cells as the released guide's own fill.sh prints them over the translation b2674be39041f33f… (all of the seat's roots in one cut). By AI agents, Wed Nov 11 2026. No macro, syntax, notation, axiom, sorry.
-/
import Derived.Test.YtnejacogflkmmaaChecked
import GoSem.Claim
import GoSem.ClaimJoined
import GoSem.ClaimMapViews
import Derived.JoinedTies
import Derived.KernelRfl
namespace Go.Proofs.Ytnejacogflkmmaa
/- THE CELL 'sum', in the pinned program and in every row, IS THE sha256 OF THE DUMP (.gsa) THAT YtnejacogflkmmaaProg.lean LOADS. Nothing in Lean hashes anything: it is a label: what it is worth is what the hold of that sum in a sandbox is worth. -/
noncomputable def Try.pinned : Pinned := { name := "ytnejacogflkmmaa", sum := "b2674be39041f33f62cc9d1308f1ba43b4f90a49a08ab51e1bccac34f03d7f08", checked := Try.checked }
namespace Rows
def none {H : Type} : Left H := { results := [], args := [] }

/-- 'blazonlaw02.SheetRolls': WHATEVER THE INPUT: true; the input reads as it did. -/
def sheetRollsSpec : ChangeSpec := { name := "sheetRolls", fn := fun _ => fun
  | [d1, d2] => { results := [.lit (.bool true)], args := [d1, d2] }
  | _ => none }
def sheetRollsRow : OpenClaim := { program := "ytnejacogflkmmaa", sum := "b2674be39041f33f62cc9d1308f1ba43b4f90a49a08ab51e1bccac34f03d7f08", func := "blazon/blazonlaw02.SheetRolls", spec := "sheetRolls", apart := false }
def SheetRollsSaid : Prop := sheetRollsRow.holds Try.pinned (OpenSpec.ofChange sheetRollsSpec)

/-- ITS FALSE NEIGHBOUR: 'it returns false'. Refute it at one input. -/
def sheetRollsWrong : ChangeSpec := { name := "sheetRolls", fn := fun _ => fun
  | [d1, d2] => { results := [.lit (.bool false)], args := [d1, d2] }
  | _ => none }
def SheetRollsWrongFalsely : Prop := sheetRollsRow.holds Try.pinned (OpenSpec.ofChange sheetRollsWrong)

/-- 'blazonlaw02.SheetClears': WHATEVER THE INPUT: true; the input reads as it did. -/
def sheetClearsSpec : ChangeSpec := { name := "sheetClears", fn := fun _ => fun
  | [d1, d2, d3] => { results := [.lit (.bool true)], args := [d1, d2, d3] }
  | _ => none }
def sheetClearsRow : OpenClaim := { program := "ytnejacogflkmmaa", sum := "b2674be39041f33f62cc9d1308f1ba43b4f90a49a08ab51e1bccac34f03d7f08", func := "blazon/blazonlaw02.SheetClears", spec := "sheetClears", apart := false }
def SheetClearsSaid : Prop := sheetClearsRow.holds Try.pinned (OpenSpec.ofChange sheetClearsSpec)

/-- ITS FALSE NEIGHBOUR: 'it returns false'. Refute it at one input. -/
def sheetClearsWrong : ChangeSpec := { name := "sheetClears", fn := fun _ => fun
  | [d1, d2, d3] => { results := [.lit (.bool false)], args := [d1, d2, d3] }
  | _ => none }
def SheetClearsWrongFalsely : Prop := sheetClearsRow.holds Try.pinned (OpenSpec.ofChange sheetClearsWrong)

/-- 'blazonlaw02.SheetLeast': WHATEVER THE INPUT: true; the input reads as it did. -/
def sheetLeastSpec : ChangeSpec := { name := "sheetLeast", fn := fun _ => fun
  | [d1, d2, d3] => { results := [.lit (.bool true)], args := [d1, d2, d3] }
  | _ => none }
def sheetLeastRow : OpenClaim := { program := "ytnejacogflkmmaa", sum := "b2674be39041f33f62cc9d1308f1ba43b4f90a49a08ab51e1bccac34f03d7f08", func := "blazon/blazonlaw02.SheetLeast", spec := "sheetLeast", apart := false }
def SheetLeastSaid : Prop := sheetLeastRow.holds Try.pinned (OpenSpec.ofChange sheetLeastSpec)

/-- ITS FALSE NEIGHBOUR: 'it returns false'. Refute it at one input. -/
def sheetLeastWrong : ChangeSpec := { name := "sheetLeast", fn := fun _ => fun
  | [d1, d2, d3] => { results := [.lit (.bool false)], args := [d1, d2, d3] }
  | _ => none }
def SheetLeastWrongFalsely : Prop := sheetLeastRow.holds Try.pinned (OpenSpec.ofChange sheetLeastWrong)

/-- 'blazonlaw02.SheetRecalls': WHATEVER THE INPUT: true; the input reads as it did. -/
def sheetRecallsSpec : ChangeSpec := { name := "sheetRecalls", fn := fun _ => fun
  | [d1, d2, d3] => { results := [.lit (.bool true)], args := [d1, d2, d3] }
  | _ => none }
def sheetRecallsRow : OpenClaim := { program := "ytnejacogflkmmaa", sum := "b2674be39041f33f62cc9d1308f1ba43b4f90a49a08ab51e1bccac34f03d7f08", func := "blazon/blazonlaw02.SheetRecalls", spec := "sheetRecalls", inPlace := ["maps.clone"], unfollowed := true, recurses := true, apart := false }
def SheetRecallsSaid : Prop := sheetRecallsRow.holds Try.pinned (OpenSpec.ofChange sheetRecallsSpec)

/-- ITS FALSE NEIGHBOUR: 'it returns false'. Refute it at one input. -/
def sheetRecallsWrong : ChangeSpec := { name := "sheetRecalls", fn := fun _ => fun
  | [d1, d2, d3] => { results := [.lit (.bool false)], args := [d1, d2, d3] }
  | _ => none }
def SheetRecallsWrongFalsely : Prop := sheetRecallsRow.holds Try.pinned (OpenSpec.ofChange sheetRecallsWrong)

/-- 'blazonlaw02.SheetReturns': WHATEVER THE INPUT: true; the input reads as it did. -/
def sheetReturnsSpec : ChangeSpec := { name := "sheetReturns", fn := fun _ => fun
  | [d1, d2, d3] => { results := [.lit (.bool true)], args := [d1, d2, d3] }
  | _ => none }
def sheetReturnsRow : OpenClaim := { program := "ytnejacogflkmmaa", sum := "b2674be39041f33f62cc9d1308f1ba43b4f90a49a08ab51e1bccac34f03d7f08", func := "blazon/blazonlaw02.SheetReturns", spec := "sheetReturns", inPlace := ["maps.clone"], unfollowed := true, recurses := true, apart := false }
def SheetReturnsSaid : Prop := sheetReturnsRow.holds Try.pinned (OpenSpec.ofChange sheetReturnsSpec)

/-- ITS FALSE NEIGHBOUR: 'it returns false'. Refute it at one input. -/
def sheetReturnsWrong : ChangeSpec := { name := "sheetReturns", fn := fun _ => fun
  | [d1, d2, d3] => { results := [.lit (.bool false)], args := [d1, d2, d3] }
  | _ => none }
def SheetReturnsWrongFalsely : Prop := sheetReturnsRow.holds Try.pinned (OpenSpec.ofChange sheetReturnsWrong)

/-- 'blazonlaw02.SheetOneLot': WHATEVER THE INPUT: true; the input reads as it did. -/
def sheetOneLotSpec : ChangeSpec := { name := "sheetOneLot", fn := fun _ => fun
  | [d1, d2, d3] => { results := [.lit (.bool true)], args := [d1, d2, d3] }
  | _ => none }
def sheetOneLotRow : OpenClaim := { program := "ytnejacogflkmmaa", sum := "b2674be39041f33f62cc9d1308f1ba43b4f90a49a08ab51e1bccac34f03d7f08", func := "blazon/blazonlaw02.SheetOneLot", spec := "sheetOneLot", inPlace := ["maps.clone"], unfollowed := true, recurses := true, apart := false }
def SheetOneLotSaid : Prop := sheetOneLotRow.holds Try.pinned (OpenSpec.ofChange sheetOneLotSpec)

/-- ITS FALSE NEIGHBOUR: 'it returns false'. Refute it at one input. -/
def sheetOneLotWrong : ChangeSpec := { name := "sheetOneLot", fn := fun _ => fun
  | [d1, d2, d3] => { results := [.lit (.bool false)], args := [d1, d2, d3] }
  | _ => none }
def SheetOneLotWrongFalsely : Prop := sheetOneLotRow.holds Try.pinned (OpenSpec.ofChange sheetOneLotWrong)

/-- 'blazonlaw02.SheetKeeps': WHATEVER THE INPUT: true; the input reads as it did. -/
def sheetKeepsSpec : ChangeSpec := { name := "sheetKeeps", fn := fun _ => fun
  | [d1, d2, d3] => { results := [.lit (.bool true)], args := [d1, d2, d3] }
  | _ => none }
def sheetKeepsRow : OpenClaim := { program := "ytnejacogflkmmaa", sum := "b2674be39041f33f62cc9d1308f1ba43b4f90a49a08ab51e1bccac34f03d7f08", func := "blazon/blazonlaw02.SheetKeeps", spec := "sheetKeeps", inPlace := ["maps.clone"], unfollowed := true, recurses := true, apart := false }
def SheetKeepsSaid : Prop := sheetKeepsRow.holds Try.pinned (OpenSpec.ofChange sheetKeepsSpec)

/-- ITS FALSE NEIGHBOUR: 'it returns false'. Refute it at one input. -/
def sheetKeepsWrong : ChangeSpec := { name := "sheetKeeps", fn := fun _ => fun
  | [d1, d2, d3] => { results := [.lit (.bool false)], args := [d1, d2, d3] }
  | _ => none }
def SheetKeepsWrongFalsely : Prop := sheetKeepsRow.holds Try.pinned (OpenSpec.ofChange sheetKeepsWrong)

/-- 'blazonlaw02.SheetExpires': WHATEVER THE INPUT: true; the input reads as it did. -/
def sheetExpiresSpec : ChangeSpec := { name := "sheetExpires", fn := fun _ => fun
  | [d1, d2, d3] => { results := [.lit (.bool true)], args := [d1, d2, d3] }
  | _ => none }
def sheetExpiresRow : OpenClaim := { program := "ytnejacogflkmmaa", sum := "b2674be39041f33f62cc9d1308f1ba43b4f90a49a08ab51e1bccac34f03d7f08", func := "blazon/blazonlaw02.SheetExpires", spec := "sheetExpires", inPlace := ["maps.clone"], unfollowed := true, recurses := true, apart := false }
def SheetExpiresSaid : Prop := sheetExpiresRow.holds Try.pinned (OpenSpec.ofChange sheetExpiresSpec)

/-- ITS FALSE NEIGHBOUR: 'it returns false'. Refute it at one input. -/
def sheetExpiresWrong : ChangeSpec := { name := "sheetExpires", fn := fun _ => fun
  | [d1, d2, d3] => { results := [.lit (.bool false)], args := [d1, d2, d3] }
  | _ => none }
def SheetExpiresWrongFalsely : Prop := sheetExpiresRow.holds Try.pinned (OpenSpec.ofChange sheetExpiresWrong)

/-- 'blazonlaw02.SheetNils': WHATEVER THE INPUT: true; the input reads as it did. -/
def sheetNilsSpec : ChangeSpec := { name := "sheetNils", fn := fun _ => fun
  | [d] => { results := [.lit (.bool true)], args := [d] }
  | _ => none }
def sheetNilsRow : OpenClaim := { program := "ytnejacogflkmmaa", sum := "b2674be39041f33f62cc9d1308f1ba43b4f90a49a08ab51e1bccac34f03d7f08", func := "blazon/blazonlaw02.SheetNils", spec := "sheetNils", inPlace := ["maps.clone"], unfollowed := true, recurses := true, apart := false }
def SheetNilsSaid : Prop := sheetNilsRow.holds Try.pinned (OpenSpec.ofChange sheetNilsSpec)

/-- ITS FALSE NEIGHBOUR: 'it returns false'. Refute it at one input. -/
def sheetNilsWrong : ChangeSpec := { name := "sheetNils", fn := fun _ => fun
  | [d] => { results := [.lit (.bool false)], args := [d] }
  | _ => none }
def SheetNilsWrongFalsely : Prop := sheetNilsRow.holds Try.pinned (OpenSpec.ofChange sheetNilsWrong)

/- THE SECOND FORM. 'bulk': how many values and letters a reading holds, each counted each time it is reached (what is shared counts as often as it is met; a slice's spare places count too). A statement '..UptoSaid' is the law's where the arguments, and the package variables that the reading takes, are together of bulk at most 1048576: NARROWER than '..Said'. Prove '..Said' where nothing that the law and all that it calls make is longer than what came in: it says more and counts as full. Else prove '..UptoSaid'. A law counts once. -/
mutual
def uptoBulk {H : Type} : DataW H → Nat
  | .lit (.string bytes) => bytes.length + 1
  | .lit _ => 1
  | .nil => 1
  | .ptr d => uptoBulk d + 1
  | .slice elems spare => uptoBulkAll elems + uptoBulkAll spare + 1
  | .agg parts => uptoBulkAll parts + 1
  | .iface _ d => uptoBulk d + 1
  | .map entries => uptoBulkEntries entries + 1
  | .held _ => 1
def uptoBulkAll {H : Type} : List (DataW H) → Nat
  | [] => 0
  | d :: r => uptoBulk d + uptoBulkAll r
def uptoBulkEntries {H : Type} : List (Lit × DataW H) → Nat
  | [] => 0
  | x :: r => uptoBulkEntry x + uptoBulkEntries r
def uptoBulkEntry {H : Type} : Lit × DataW H → Nat
  | (.string bytes, d) => bytes.length + uptoBulk d + 1
  | (_, d) => uptoBulk d + 1
 end
def uptoSmall : (H : Type) → List (DataW H) → Bool := fun _ ds => decide (uptoBulkAll ds ≤ 1048576)
def OpenSpec.upto (s : _root_.Go.ChangeSpec) : _root_.Go.OpenSpec := { _root_.Go.OpenSpec.ofChange s with cond := some uptoSmall }

/-- 'blazonlaw02.SheetRolls', WHERE WHAT IT READS IS OF BULK AT MOST 1048576: true; the input reads as it did. -/
def sheetRollsUptoRow : OpenClaim := { program := "ytnejacogflkmmaa", sum := "b2674be39041f33f62cc9d1308f1ba43b4f90a49a08ab51e1bccac34f03d7f08", func := "blazon/blazonlaw02.SheetRolls", spec := "sheetRolls", apart := false, narrowed := true }
def SheetRollsUptoSaid : Prop := sheetRollsUptoRow.holds Try.pinned (OpenSpec.upto sheetRollsSpec)

/-- 'blazonlaw02.SheetClears', WHERE WHAT IT READS IS OF BULK AT MOST 1048576: true; the input reads as it did. -/
def sheetClearsUptoRow : OpenClaim := { program := "ytnejacogflkmmaa", sum := "b2674be39041f33f62cc9d1308f1ba43b4f90a49a08ab51e1bccac34f03d7f08", func := "blazon/blazonlaw02.SheetClears", spec := "sheetClears", apart := false, narrowed := true }
def SheetClearsUptoSaid : Prop := sheetClearsUptoRow.holds Try.pinned (OpenSpec.upto sheetClearsSpec)

/-- 'blazonlaw02.SheetLeast', WHERE WHAT IT READS IS OF BULK AT MOST 1048576: true; the input reads as it did. -/
def sheetLeastUptoRow : OpenClaim := { program := "ytnejacogflkmmaa", sum := "b2674be39041f33f62cc9d1308f1ba43b4f90a49a08ab51e1bccac34f03d7f08", func := "blazon/blazonlaw02.SheetLeast", spec := "sheetLeast", apart := false, narrowed := true }
def SheetLeastUptoSaid : Prop := sheetLeastUptoRow.holds Try.pinned (OpenSpec.upto sheetLeastSpec)

/-- 'blazonlaw02.SheetRecalls', WHERE WHAT IT READS IS OF BULK AT MOST 1048576: true; the input reads as it did. -/
def sheetRecallsUptoRow : OpenClaim := { program := "ytnejacogflkmmaa", sum := "b2674be39041f33f62cc9d1308f1ba43b4f90a49a08ab51e1bccac34f03d7f08", func := "blazon/blazonlaw02.SheetRecalls", spec := "sheetRecalls", inPlace := ["maps.clone"], unfollowed := true, recurses := true, apart := false, narrowed := true }
def SheetRecallsUptoSaid : Prop := sheetRecallsUptoRow.holds Try.pinned (OpenSpec.upto sheetRecallsSpec)

/-- 'blazonlaw02.SheetReturns', WHERE WHAT IT READS IS OF BULK AT MOST 1048576: true; the input reads as it did. -/
def sheetReturnsUptoRow : OpenClaim := { program := "ytnejacogflkmmaa", sum := "b2674be39041f33f62cc9d1308f1ba43b4f90a49a08ab51e1bccac34f03d7f08", func := "blazon/blazonlaw02.SheetReturns", spec := "sheetReturns", inPlace := ["maps.clone"], unfollowed := true, recurses := true, apart := false, narrowed := true }
def SheetReturnsUptoSaid : Prop := sheetReturnsUptoRow.holds Try.pinned (OpenSpec.upto sheetReturnsSpec)

/-- 'blazonlaw02.SheetOneLot', WHERE WHAT IT READS IS OF BULK AT MOST 1048576: true; the input reads as it did. -/
def sheetOneLotUptoRow : OpenClaim := { program := "ytnejacogflkmmaa", sum := "b2674be39041f33f62cc9d1308f1ba43b4f90a49a08ab51e1bccac34f03d7f08", func := "blazon/blazonlaw02.SheetOneLot", spec := "sheetOneLot", inPlace := ["maps.clone"], unfollowed := true, recurses := true, apart := false, narrowed := true }
def SheetOneLotUptoSaid : Prop := sheetOneLotUptoRow.holds Try.pinned (OpenSpec.upto sheetOneLotSpec)

/-- 'blazonlaw02.SheetKeeps', WHERE WHAT IT READS IS OF BULK AT MOST 1048576: true; the input reads as it did. -/
def sheetKeepsUptoRow : OpenClaim := { program := "ytnejacogflkmmaa", sum := "b2674be39041f33f62cc9d1308f1ba43b4f90a49a08ab51e1bccac34f03d7f08", func := "blazon/blazonlaw02.SheetKeeps", spec := "sheetKeeps", inPlace := ["maps.clone"], unfollowed := true, recurses := true, apart := false, narrowed := true }
def SheetKeepsUptoSaid : Prop := sheetKeepsUptoRow.holds Try.pinned (OpenSpec.upto sheetKeepsSpec)

/-- 'blazonlaw02.SheetExpires', WHERE WHAT IT READS IS OF BULK AT MOST 1048576: true; the input reads as it did. -/
def sheetExpiresUptoRow : OpenClaim := { program := "ytnejacogflkmmaa", sum := "b2674be39041f33f62cc9d1308f1ba43b4f90a49a08ab51e1bccac34f03d7f08", func := "blazon/blazonlaw02.SheetExpires", spec := "sheetExpires", inPlace := ["maps.clone"], unfollowed := true, recurses := true, apart := false, narrowed := true }
def SheetExpiresUptoSaid : Prop := sheetExpiresUptoRow.holds Try.pinned (OpenSpec.upto sheetExpiresSpec)

/-- 'blazonlaw02.SheetNils', WHERE WHAT IT READS IS OF BULK AT MOST 1048576: true; the input reads as it did. -/
def sheetNilsUptoRow : OpenClaim := { program := "ytnejacogflkmmaa", sum := "b2674be39041f33f62cc9d1308f1ba43b4f90a49a08ab51e1bccac34f03d7f08", func := "blazon/blazonlaw02.SheetNils", spec := "sheetNils", inPlace := ["maps.clone"], unfollowed := true, recurses := true, apart := false, narrowed := true }
def SheetNilsUptoSaid : Prop := sheetNilsUptoRow.holds Try.pinned (OpenSpec.upto sheetNilsSpec)

end Rows
end Go.Proofs.Ytnejacogflkmmaa
