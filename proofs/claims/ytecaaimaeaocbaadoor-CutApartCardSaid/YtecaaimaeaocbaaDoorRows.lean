/-
  NARROWER THAN 'FOR EVERY INPUT', by the rows' own cells (each row's printed sentence says how): CutPrices: laid · CutFits: laid · CutClashes: laid · CutLeast: laid · CutMore: laid · CutUsed: laid · CutPlaces: laid · CutParses: laid · CutFormats: loops, laid · CutApart: laid · CutLong: laid · CutCanonical: laid · CutGreedy: laid · CutChecks: laid.
  DERIVED. THE GIVEN ROWS OF THIS SEAT. 14 by the template 'for every input the law returns true; each argument reads behind the call as it read before'; 0 by the template 'total and deterministic' (their statements: YtecaaimaeaocbaaDoorTotals.lean).
  GIVEN WITH THE SEED: the statements are not yours to turn. If you find one false, say at which input.
  Laid BY PROGRAM, IN A SANDBOX (cutbox-rows.mjs): the forced cells as the released guide's own fill.sh prints them over the translation 0962e7c5a3f66321… (all of the seat's roots in one cut). By AI agents, Wed Nov 11 2026. No macro, syntax, notation, axiom, sorry.
-/
import Derived.Test.YtecaaimaeaocbaaDoorChecked
import GoSem.Claim
import GoSem.ClaimJoined
import GoSem.ClaimMapViews
import Derived.JoinedTies
import Derived.KernelRfl
namespace Go.Proofs.YtecaaimaeaocbaaDoor
/- THE CELL 'sum', in the pinned program and in every row, IS THE sha256 OF THE DUMP (.gsa) THAT YtecaaimaeaocbaaDoorProg.lean LOADS. Nothing in Lean hashes anything: it is a label: what it is worth is what the hold of that sum in a sandbox is worth. -/
noncomputable def Tryd.pinned : Pinned := { name := "ytecaaimaeaocbaadoor", sum := "0962e7c5a3f66321f7ff4432df8bc3dc0f2514f1ddf9b4f996c4f73e84ccc26b", checked := Tryd.checked }
namespace Rows
def none {H : Type} : Left H := { results := [], args := [] }

/- WHAT THE LISTED PACKAGE-LEVEL VARIABLES READ AS WHEN THE CALL BEGINS. Each datum BY PROGRAM (the guide's laid-datum.mjs) off the statement by which the dump's own 'gosem.cut.vars' lays the variable. In a bare row this is a premise. The card (YtecaaimaeaocbaaDoorCards.lean) ties it to the program's text. -/
def laid_math_bits_deBruijn32tab {H : Type} : DataW H := .agg [.lit (.int .u8 0), .lit (.int .u8 1), .lit (.int .u8 28), .lit (.int .u8 2), .lit (.int .u8 29), .lit (.int .u8 14), .lit (.int .u8 24), .lit (.int .u8 3), .lit (.int .u8 30), .lit (.int .u8 22), .lit (.int .u8 20), .lit (.int .u8 15), .lit (.int .u8 25), .lit (.int .u8 17), .lit (.int .u8 4), .lit (.int .u8 8), .lit (.int .u8 31), .lit (.int .u8 27), .lit (.int .u8 13), .lit (.int .u8 23), .lit (.int .u8 21), .lit (.int .u8 19), .lit (.int .u8 16), .lit (.int .u8 7), .lit (.int .u8 26), .lit (.int .u8 12), .lit (.int .u8 18), .lit (.int .u8 6), .lit (.int .u8 11), .lit (.int .u8 5), .lit (.int .u8 10), .lit (.int .u8 9)]
def laid_math_bits_deBruijn64tab {H : Type} : DataW H := .agg [.lit (.int .u8 0), .lit (.int .u8 1), .lit (.int .u8 56), .lit (.int .u8 2), .lit (.int .u8 57), .lit (.int .u8 49), .lit (.int .u8 28), .lit (.int .u8 3), .lit (.int .u8 61), .lit (.int .u8 58), .lit (.int .u8 42), .lit (.int .u8 50), .lit (.int .u8 38), .lit (.int .u8 29), .lit (.int .u8 17), .lit (.int .u8 4), .lit (.int .u8 62), .lit (.int .u8 47), .lit (.int .u8 59), .lit (.int .u8 36), .lit (.int .u8 45), .lit (.int .u8 43), .lit (.int .u8 51), .lit (.int .u8 22), .lit (.int .u8 53), .lit (.int .u8 39), .lit (.int .u8 33), .lit (.int .u8 30), .lit (.int .u8 24), .lit (.int .u8 18), .lit (.int .u8 12), .lit (.int .u8 5), .lit (.int .u8 63), .lit (.int .u8 55), .lit (.int .u8 48), .lit (.int .u8 27), .lit (.int .u8 60), .lit (.int .u8 41), .lit (.int .u8 37), .lit (.int .u8 16), .lit (.int .u8 46), .lit (.int .u8 35), .lit (.int .u8 44), .lit (.int .u8 21), .lit (.int .u8 52), .lit (.int .u8 32), .lit (.int .u8 23), .lit (.int .u8 11), .lit (.int .u8 54), .lit (.int .u8 26), .lit (.int .u8 40), .lit (.int .u8 15), .lit (.int .u8 34), .lit (.int .u8 20), .lit (.int .u8 31), .lit (.int .u8 10), .lit (.int .u8 25), .lit (.int .u8 14), .lit (.int .u8 19), .lit (.int .u8 9), .lit (.int .u8 13), .lit (.int .u8 8), .lit (.int .u8 7), .lit (.int .u8 6)]
def laid_internal_strconv_uint64pow10 {H : Type} : DataW H := .agg [.lit (.int .u64 1), .lit (.int .u64 10), .lit (.int .u64 100), .lit (.int .u64 1000), .lit (.int .u64 10000), .lit (.int .u64 100000), .lit (.int .u64 1000000), .lit (.int .u64 10000000), .lit (.int .u64 100000000), .lit (.int .u64 1000000000), .lit (.int .u64 10000000000), .lit (.int .u64 100000000000), .lit (.int .u64 1000000000000), .lit (.int .u64 10000000000000), .lit (.int .u64 100000000000000), .lit (.int .u64 1000000000000000), .lit (.int .u64 10000000000000000), .lit (.int .u64 100000000000000000), .lit (.int .u64 1000000000000000000), .lit (.int .u64 10000000000000000000)]
def laid_strconv_ErrRange {H : Type} : DataW H := .iface "*errors.errorString" (.ptr (.agg [.lit (.string [118, 97, 108, 117, 101, 32, 111, 117, 116, 32, 111, 102, 32, 114, 97, 110, 103, 101])]))
def laid_strconv_ErrSyntax {H : Type} : DataW H := .iface "*errors.errorString" (.ptr (.agg [.lit (.string [105, 110, 118, 97, 108, 105, 100, 32, 115, 121, 110, 116, 97, 120])]))

/-- 'blazonlaw04.CutPrices': WHATEVER THE INPUT: true; the input reads as it did. -/
def cutPricesSpec : ChangeSpec := { name := "cutPrices", fn := fun _ => fun
  | [d1, d2] => { results := [.lit (.bool true)], args := [d1, d2] }
  | _ => none }
def cutPricesRow : OpenClaim := { program := "ytecaaimaeaocbaadoor", sum := "0962e7c5a3f66321f7ff4432df8bc3dc0f2514f1ddf9b4f996c4f73e84ccc26b", func := "blazon/blazonlaw04.CutPrices", spec := "cutPrices", recurses := true, named := ["strconv.ErrSyntax", "strconv.ErrRange", "internal/strconv.uint64pow10", "math/bits.deBruijn32tab", "math/bits.deBruijn64tab"], apart := false, laid := [("math/bits.deBruijn32tab", laid_math_bits_deBruijn32tab), ("math/bits.deBruijn64tab", laid_math_bits_deBruijn64tab), ("internal/strconv.uint64pow10", laid_internal_strconv_uint64pow10), ("strconv.ErrRange", laid_strconv_ErrRange), ("strconv.ErrSyntax", laid_strconv_ErrSyntax)] }
def CutPricesSaid : Prop := cutPricesRow.holds Tryd.pinned (OpenSpec.ofChange cutPricesSpec)

/-- ITS FALSE NEIGHBOUR: 'it returns false'. Refute it at one input. -/
def cutPricesWrong : ChangeSpec := { name := "cutPrices", fn := fun _ => fun
  | [d1, d2] => { results := [.lit (.bool false)], args := [d1, d2] }
  | _ => none }
def CutPricesWrongFalsely : Prop := cutPricesRow.holds Tryd.pinned (OpenSpec.ofChange cutPricesWrong)

/-- 'blazonlaw04.CutFits': WHATEVER THE INPUT: true; the input reads as it did. -/
def cutFitsSpec : ChangeSpec := { name := "cutFits", fn := fun _ => fun
  | [d1, d2] => { results := [.lit (.bool true)], args := [d1, d2] }
  | _ => none }
def cutFitsRow : OpenClaim := { program := "ytecaaimaeaocbaadoor", sum := "0962e7c5a3f66321f7ff4432df8bc3dc0f2514f1ddf9b4f996c4f73e84ccc26b", func := "blazon/blazonlaw04.CutFits", spec := "cutFits", recurses := true, named := ["strconv.ErrSyntax", "strconv.ErrRange", "internal/strconv.uint64pow10", "math/bits.deBruijn32tab", "math/bits.deBruijn64tab"], apart := false, laid := [("math/bits.deBruijn32tab", laid_math_bits_deBruijn32tab), ("math/bits.deBruijn64tab", laid_math_bits_deBruijn64tab), ("internal/strconv.uint64pow10", laid_internal_strconv_uint64pow10), ("strconv.ErrRange", laid_strconv_ErrRange), ("strconv.ErrSyntax", laid_strconv_ErrSyntax)] }
def CutFitsSaid : Prop := cutFitsRow.holds Tryd.pinned (OpenSpec.ofChange cutFitsSpec)

/-- ITS FALSE NEIGHBOUR: 'it returns false'. Refute it at one input. -/
def cutFitsWrong : ChangeSpec := { name := "cutFits", fn := fun _ => fun
  | [d1, d2] => { results := [.lit (.bool false)], args := [d1, d2] }
  | _ => none }
def CutFitsWrongFalsely : Prop := cutFitsRow.holds Tryd.pinned (OpenSpec.ofChange cutFitsWrong)

/-- 'blazonlaw04.CutClashes': WHATEVER THE INPUT: true; the input reads as it did. -/
def cutClashesSpec : ChangeSpec := { name := "cutClashes", fn := fun _ => fun
  | [d1, d2] => { results := [.lit (.bool true)], args := [d1, d2] }
  | _ => none }
def cutClashesRow : OpenClaim := { program := "ytecaaimaeaocbaadoor", sum := "0962e7c5a3f66321f7ff4432df8bc3dc0f2514f1ddf9b4f996c4f73e84ccc26b", func := "blazon/blazonlaw04.CutClashes", spec := "cutClashes", recurses := true, named := ["strconv.ErrSyntax", "strconv.ErrRange", "internal/strconv.uint64pow10", "math/bits.deBruijn32tab", "math/bits.deBruijn64tab"], apart := false, laid := [("math/bits.deBruijn32tab", laid_math_bits_deBruijn32tab), ("math/bits.deBruijn64tab", laid_math_bits_deBruijn64tab), ("internal/strconv.uint64pow10", laid_internal_strconv_uint64pow10), ("strconv.ErrRange", laid_strconv_ErrRange), ("strconv.ErrSyntax", laid_strconv_ErrSyntax)] }
def CutClashesSaid : Prop := cutClashesRow.holds Tryd.pinned (OpenSpec.ofChange cutClashesSpec)

/-- ITS FALSE NEIGHBOUR: 'it returns false'. Refute it at one input. -/
def cutClashesWrong : ChangeSpec := { name := "cutClashes", fn := fun _ => fun
  | [d1, d2] => { results := [.lit (.bool false)], args := [d1, d2] }
  | _ => none }
def CutClashesWrongFalsely : Prop := cutClashesRow.holds Tryd.pinned (OpenSpec.ofChange cutClashesWrong)

/-- 'blazonlaw04.CutLeast': WHATEVER THE INPUT: true; the input reads as it did. -/
def cutLeastSpec : ChangeSpec := { name := "cutLeast", fn := fun _ => fun
  | [d] => { results := [.lit (.bool true)], args := [d] }
  | _ => none }
def cutLeastRow : OpenClaim := { program := "ytecaaimaeaocbaadoor", sum := "0962e7c5a3f66321f7ff4432df8bc3dc0f2514f1ddf9b4f996c4f73e84ccc26b", func := "blazon/blazonlaw04.CutLeast", spec := "cutLeast", recurses := true, named := ["strconv.ErrSyntax", "strconv.ErrRange", "internal/strconv.uint64pow10", "math/bits.deBruijn32tab", "math/bits.deBruijn64tab"], apart := false, laid := [("math/bits.deBruijn32tab", laid_math_bits_deBruijn32tab), ("math/bits.deBruijn64tab", laid_math_bits_deBruijn64tab), ("internal/strconv.uint64pow10", laid_internal_strconv_uint64pow10), ("strconv.ErrRange", laid_strconv_ErrRange), ("strconv.ErrSyntax", laid_strconv_ErrSyntax)] }
def CutLeastSaid : Prop := cutLeastRow.holds Tryd.pinned (OpenSpec.ofChange cutLeastSpec)

/-- ITS FALSE NEIGHBOUR: 'it returns false'. Refute it at one input. -/
def cutLeastWrong : ChangeSpec := { name := "cutLeast", fn := fun _ => fun
  | [d] => { results := [.lit (.bool false)], args := [d] }
  | _ => none }
def CutLeastWrongFalsely : Prop := cutLeastRow.holds Tryd.pinned (OpenSpec.ofChange cutLeastWrong)

/-- 'blazonlaw04.CutMore': WHATEVER THE INPUT: true; the input reads as it did. -/
def cutMoreSpec : ChangeSpec := { name := "cutMore", fn := fun _ => fun
  | [d1, d2] => { results := [.lit (.bool true)], args := [d1, d2] }
  | _ => none }
def cutMoreRow : OpenClaim := { program := "ytecaaimaeaocbaadoor", sum := "0962e7c5a3f66321f7ff4432df8bc3dc0f2514f1ddf9b4f996c4f73e84ccc26b", func := "blazon/blazonlaw04.CutMore", spec := "cutMore", recurses := true, named := ["strconv.ErrSyntax", "strconv.ErrRange", "internal/strconv.uint64pow10", "math/bits.deBruijn32tab", "math/bits.deBruijn64tab"], apart := false, laid := [("math/bits.deBruijn32tab", laid_math_bits_deBruijn32tab), ("math/bits.deBruijn64tab", laid_math_bits_deBruijn64tab), ("internal/strconv.uint64pow10", laid_internal_strconv_uint64pow10), ("strconv.ErrRange", laid_strconv_ErrRange), ("strconv.ErrSyntax", laid_strconv_ErrSyntax)] }
def CutMoreSaid : Prop := cutMoreRow.holds Tryd.pinned (OpenSpec.ofChange cutMoreSpec)

/-- ITS FALSE NEIGHBOUR: 'it returns false'. Refute it at one input. -/
def cutMoreWrong : ChangeSpec := { name := "cutMore", fn := fun _ => fun
  | [d1, d2] => { results := [.lit (.bool false)], args := [d1, d2] }
  | _ => none }
def CutMoreWrongFalsely : Prop := cutMoreRow.holds Tryd.pinned (OpenSpec.ofChange cutMoreWrong)

/-- 'blazonlaw04.CutUsed': WHATEVER THE INPUT: true; the input reads as it did. -/
def cutUsedSpec : ChangeSpec := { name := "cutUsed", fn := fun _ => fun
  | [d1, d2] => { results := [.lit (.bool true)], args := [d1, d2] }
  | _ => none }
def cutUsedRow : OpenClaim := { program := "ytecaaimaeaocbaadoor", sum := "0962e7c5a3f66321f7ff4432df8bc3dc0f2514f1ddf9b4f996c4f73e84ccc26b", func := "blazon/blazonlaw04.CutUsed", spec := "cutUsed", recurses := true, named := ["strconv.ErrSyntax", "strconv.ErrRange", "internal/strconv.uint64pow10", "math/bits.deBruijn32tab", "math/bits.deBruijn64tab"], apart := false, laid := [("math/bits.deBruijn32tab", laid_math_bits_deBruijn32tab), ("math/bits.deBruijn64tab", laid_math_bits_deBruijn64tab), ("internal/strconv.uint64pow10", laid_internal_strconv_uint64pow10), ("strconv.ErrRange", laid_strconv_ErrRange), ("strconv.ErrSyntax", laid_strconv_ErrSyntax)] }
def CutUsedSaid : Prop := cutUsedRow.holds Tryd.pinned (OpenSpec.ofChange cutUsedSpec)

/-- ITS FALSE NEIGHBOUR: 'it returns false'. Refute it at one input. -/
def cutUsedWrong : ChangeSpec := { name := "cutUsed", fn := fun _ => fun
  | [d1, d2] => { results := [.lit (.bool false)], args := [d1, d2] }
  | _ => none }
def CutUsedWrongFalsely : Prop := cutUsedRow.holds Tryd.pinned (OpenSpec.ofChange cutUsedWrong)

/-- 'blazonlaw04.CutPlaces': WHATEVER THE INPUT: true; the input reads as it did. -/
def cutPlacesSpec : ChangeSpec := { name := "cutPlaces", fn := fun _ => fun
  | [d] => { results := [.lit (.bool true)], args := [d] }
  | _ => none }
def cutPlacesRow : OpenClaim := { program := "ytecaaimaeaocbaadoor", sum := "0962e7c5a3f66321f7ff4432df8bc3dc0f2514f1ddf9b4f996c4f73e84ccc26b", func := "blazon/blazonlaw04.CutPlaces", spec := "cutPlaces", recurses := true, named := ["strconv.ErrSyntax", "strconv.ErrRange", "internal/strconv.uint64pow10", "math/bits.deBruijn32tab", "math/bits.deBruijn64tab"], apart := false, laid := [("math/bits.deBruijn32tab", laid_math_bits_deBruijn32tab), ("math/bits.deBruijn64tab", laid_math_bits_deBruijn64tab), ("internal/strconv.uint64pow10", laid_internal_strconv_uint64pow10), ("strconv.ErrRange", laid_strconv_ErrRange), ("strconv.ErrSyntax", laid_strconv_ErrSyntax)] }
def CutPlacesSaid : Prop := cutPlacesRow.holds Tryd.pinned (OpenSpec.ofChange cutPlacesSpec)

/-- ITS FALSE NEIGHBOUR: 'it returns false'. Refute it at one input. -/
def cutPlacesWrong : ChangeSpec := { name := "cutPlaces", fn := fun _ => fun
  | [d] => { results := [.lit (.bool false)], args := [d] }
  | _ => none }
def CutPlacesWrongFalsely : Prop := cutPlacesRow.holds Tryd.pinned (OpenSpec.ofChange cutPlacesWrong)

/-- 'blazonlaw04.CutParses': WHATEVER THE INPUT: true; the input reads as it did. -/
def cutParsesSpec : ChangeSpec := { name := "cutParses", fn := fun _ => fun
  | [d] => { results := [.lit (.bool true)], args := [d] }
  | _ => none }
def cutParsesRow : OpenClaim := { program := "ytecaaimaeaocbaadoor", sum := "0962e7c5a3f66321f7ff4432df8bc3dc0f2514f1ddf9b4f996c4f73e84ccc26b", func := "blazon/blazonlaw04.CutParses", spec := "cutParses", inPlace := ["internal/abi.NoEscape"], recurses := true, named := ["strconv.ErrSyntax", "strconv.ErrRange", "internal/strconv.uint64pow10", "math/bits.deBruijn32tab", "math/bits.deBruijn64tab"], apart := false, laid := [("math/bits.deBruijn32tab", laid_math_bits_deBruijn32tab), ("math/bits.deBruijn64tab", laid_math_bits_deBruijn64tab), ("internal/strconv.uint64pow10", laid_internal_strconv_uint64pow10), ("strconv.ErrRange", laid_strconv_ErrRange), ("strconv.ErrSyntax", laid_strconv_ErrSyntax)] }
def CutParsesSaid : Prop := cutParsesRow.holds Tryd.pinned (OpenSpec.ofChange cutParsesSpec)

/-- ITS FALSE NEIGHBOUR: 'it returns false'. Refute it at one input. -/
def cutParsesWrong : ChangeSpec := { name := "cutParses", fn := fun _ => fun
  | [d] => { results := [.lit (.bool false)], args := [d] }
  | _ => none }
def CutParsesWrongFalsely : Prop := cutParsesRow.holds Tryd.pinned (OpenSpec.ofChange cutParsesWrong)

/-- 'blazonlaw04.CutFormats': WHATEVER THE INPUT: true; the input reads as it did. -/
def cutFormatsSpec : ChangeSpec := { name := "cutFormats", fn := fun _ => fun
  | [d] => { results := [.lit (.bool true)], args := [d] }
  | _ => none }
def cutFormatsRow : OpenClaim := { program := "ytecaaimaeaocbaadoor", sum := "0962e7c5a3f66321f7ff4432df8bc3dc0f2514f1ddf9b4f996c4f73e84ccc26b", func := "blazon/blazonlaw04.CutFormats", spec := "cutFormats", inPlace := ["internal/abi.NoEscape"], recurses := true, named := ["strconv.ErrSyntax", "strconv.ErrRange", "internal/strconv.uint64pow10", "math/bits.deBruijn32tab", "math/bits.deBruijn64tab"], loops := true, apart := false, laid := [("math/bits.deBruijn32tab", laid_math_bits_deBruijn32tab), ("math/bits.deBruijn64tab", laid_math_bits_deBruijn64tab), ("internal/strconv.uint64pow10", laid_internal_strconv_uint64pow10), ("strconv.ErrRange", laid_strconv_ErrRange), ("strconv.ErrSyntax", laid_strconv_ErrSyntax)] }
def CutFormatsSaid : Prop := cutFormatsRow.holds Tryd.pinned (OpenSpec.ofChange cutFormatsSpec)

/-- ITS FALSE NEIGHBOUR: 'it returns false'. Refute it at one input. -/
def cutFormatsWrong : ChangeSpec := { name := "cutFormats", fn := fun _ => fun
  | [d] => { results := [.lit (.bool false)], args := [d] }
  | _ => none }
def CutFormatsWrongFalsely : Prop := cutFormatsRow.holds Tryd.pinned (OpenSpec.ofChange cutFormatsWrong)

/-- 'blazonlaw04.CutApart': WHATEVER THE INPUT: true; the input reads as it did. -/
def cutApartSpec : ChangeSpec := { name := "cutApart", fn := fun _ => fun
  | [d] => { results := [.lit (.bool true)], args := [d] }
  | _ => none }
def cutApartRow : OpenClaim := { program := "ytecaaimaeaocbaadoor", sum := "0962e7c5a3f66321f7ff4432df8bc3dc0f2514f1ddf9b4f996c4f73e84ccc26b", func := "blazon/blazonlaw04.CutApart", spec := "cutApart", recurses := true, named := ["strconv.ErrSyntax", "strconv.ErrRange", "internal/strconv.uint64pow10", "math/bits.deBruijn32tab", "math/bits.deBruijn64tab"], apart := false, laid := [("math/bits.deBruijn32tab", laid_math_bits_deBruijn32tab), ("math/bits.deBruijn64tab", laid_math_bits_deBruijn64tab), ("internal/strconv.uint64pow10", laid_internal_strconv_uint64pow10), ("strconv.ErrRange", laid_strconv_ErrRange), ("strconv.ErrSyntax", laid_strconv_ErrSyntax)] }
def CutApartSaid : Prop := cutApartRow.holds Tryd.pinned (OpenSpec.ofChange cutApartSpec)

/-- ITS FALSE NEIGHBOUR: 'it returns false'. Refute it at one input. -/
def cutApartWrong : ChangeSpec := { name := "cutApart", fn := fun _ => fun
  | [d] => { results := [.lit (.bool false)], args := [d] }
  | _ => none }
def CutApartWrongFalsely : Prop := cutApartRow.holds Tryd.pinned (OpenSpec.ofChange cutApartWrong)

/-- 'blazonlaw04.CutLong': WHATEVER THE INPUT: true; the input reads as it did. -/
def cutLongSpec : ChangeSpec := { name := "cutLong", fn := fun _ => fun
  | [d1, d2, d3] => { results := [.lit (.bool true)], args := [d1, d2, d3] }
  | _ => none }
def cutLongRow : OpenClaim := { program := "ytecaaimaeaocbaadoor", sum := "0962e7c5a3f66321f7ff4432df8bc3dc0f2514f1ddf9b4f996c4f73e84ccc26b", func := "blazon/blazonlaw04.CutLong", spec := "cutLong", unfollowed := true, recurses := true, named := ["strconv.ErrSyntax", "strconv.ErrRange", "internal/strconv.uint64pow10", "math/bits.deBruijn32tab", "math/bits.deBruijn64tab"], apart := false, laid := [("math/bits.deBruijn32tab", laid_math_bits_deBruijn32tab), ("math/bits.deBruijn64tab", laid_math_bits_deBruijn64tab), ("internal/strconv.uint64pow10", laid_internal_strconv_uint64pow10), ("strconv.ErrRange", laid_strconv_ErrRange), ("strconv.ErrSyntax", laid_strconv_ErrSyntax)] }
def CutLongSaid : Prop := cutLongRow.holds Tryd.pinned (OpenSpec.ofChange cutLongSpec)

/-- ITS FALSE NEIGHBOUR: 'it returns false'. Refute it at one input. -/
def cutLongWrong : ChangeSpec := { name := "cutLong", fn := fun _ => fun
  | [d1, d2, d3] => { results := [.lit (.bool false)], args := [d1, d2, d3] }
  | _ => none }
def CutLongWrongFalsely : Prop := cutLongRow.holds Tryd.pinned (OpenSpec.ofChange cutLongWrong)

/-- 'blazonlaw04.CutCanonical': WHATEVER THE INPUT: true; the input reads as it did. -/
def cutCanonicalSpec : ChangeSpec := { name := "cutCanonical", fn := fun _ => fun
  | [d1, d2, d3] => { results := [.lit (.bool true)], args := [d1, d2, d3] }
  | _ => none }
def cutCanonicalRow : OpenClaim := { program := "ytecaaimaeaocbaadoor", sum := "0962e7c5a3f66321f7ff4432df8bc3dc0f2514f1ddf9b4f996c4f73e84ccc26b", func := "blazon/blazonlaw04.CutCanonical", spec := "cutCanonical", unfollowed := true, recurses := true, named := ["strconv.ErrSyntax", "strconv.ErrRange", "internal/strconv.uint64pow10", "math/bits.deBruijn32tab", "math/bits.deBruijn64tab"], apart := false, laid := [("math/bits.deBruijn32tab", laid_math_bits_deBruijn32tab), ("math/bits.deBruijn64tab", laid_math_bits_deBruijn64tab), ("internal/strconv.uint64pow10", laid_internal_strconv_uint64pow10), ("strconv.ErrRange", laid_strconv_ErrRange), ("strconv.ErrSyntax", laid_strconv_ErrSyntax)] }
def CutCanonicalSaid : Prop := cutCanonicalRow.holds Tryd.pinned (OpenSpec.ofChange cutCanonicalSpec)

/-- ITS FALSE NEIGHBOUR: 'it returns false'. Refute it at one input. -/
def cutCanonicalWrong : ChangeSpec := { name := "cutCanonical", fn := fun _ => fun
  | [d1, d2, d3] => { results := [.lit (.bool false)], args := [d1, d2, d3] }
  | _ => none }
def CutCanonicalWrongFalsely : Prop := cutCanonicalRow.holds Tryd.pinned (OpenSpec.ofChange cutCanonicalWrong)

/-- 'blazonlaw04.CutGreedy': WHATEVER THE INPUT: true; the input reads as it did. -/
def cutGreedySpec : ChangeSpec := { name := "cutGreedy", fn := fun _ => fun
  | [d] => { results := [.lit (.bool true)], args := [d] }
  | _ => none }
def cutGreedyRow : OpenClaim := { program := "ytecaaimaeaocbaadoor", sum := "0962e7c5a3f66321f7ff4432df8bc3dc0f2514f1ddf9b4f996c4f73e84ccc26b", func := "blazon/blazonlaw04.CutGreedy", spec := "cutGreedy", unfollowed := true, recurses := true, named := ["strconv.ErrSyntax", "strconv.ErrRange", "internal/strconv.uint64pow10", "math/bits.deBruijn32tab", "math/bits.deBruijn64tab"], apart := false, laid := [("math/bits.deBruijn32tab", laid_math_bits_deBruijn32tab), ("math/bits.deBruijn64tab", laid_math_bits_deBruijn64tab), ("internal/strconv.uint64pow10", laid_internal_strconv_uint64pow10), ("strconv.ErrRange", laid_strconv_ErrRange), ("strconv.ErrSyntax", laid_strconv_ErrSyntax)] }
def CutGreedySaid : Prop := cutGreedyRow.holds Tryd.pinned (OpenSpec.ofChange cutGreedySpec)

/-- ITS FALSE NEIGHBOUR: 'it returns false'. Refute it at one input. -/
def cutGreedyWrong : ChangeSpec := { name := "cutGreedy", fn := fun _ => fun
  | [d] => { results := [.lit (.bool false)], args := [d] }
  | _ => none }
def CutGreedyWrongFalsely : Prop := cutGreedyRow.holds Tryd.pinned (OpenSpec.ofChange cutGreedyWrong)

/-- 'blazonlaw04.CutChecks': WHATEVER THE INPUT: true; the input reads as it did. -/
def cutChecksSpec : ChangeSpec := { name := "cutChecks", fn := fun _ => fun
  | [d1, d2] => { results := [.lit (.bool true)], args := [d1, d2] }
  | _ => none }
def cutChecksRow : OpenClaim := { program := "ytecaaimaeaocbaadoor", sum := "0962e7c5a3f66321f7ff4432df8bc3dc0f2514f1ddf9b4f996c4f73e84ccc26b", func := "blazon/blazonlaw04.CutChecks", spec := "cutChecks", unfollowed := true, recurses := true, named := ["strconv.ErrSyntax", "strconv.ErrRange", "internal/strconv.uint64pow10", "math/bits.deBruijn32tab", "math/bits.deBruijn64tab"], apart := false, laid := [("math/bits.deBruijn32tab", laid_math_bits_deBruijn32tab), ("math/bits.deBruijn64tab", laid_math_bits_deBruijn64tab), ("internal/strconv.uint64pow10", laid_internal_strconv_uint64pow10), ("strconv.ErrRange", laid_strconv_ErrRange), ("strconv.ErrSyntax", laid_strconv_ErrSyntax)] }
def CutChecksSaid : Prop := cutChecksRow.holds Tryd.pinned (OpenSpec.ofChange cutChecksSpec)

/-- ITS FALSE NEIGHBOUR: 'it returns false'. Refute it at one input. -/
def cutChecksWrong : ChangeSpec := { name := "cutChecks", fn := fun _ => fun
  | [d1, d2] => { results := [.lit (.bool false)], args := [d1, d2] }
  | _ => none }
def CutChecksWrongFalsely : Prop := cutChecksRow.holds Tryd.pinned (OpenSpec.ofChange cutChecksWrong)

/- THE SECOND FORM. 'bulk': how many values and letters a reading holds, each counted each time it is reached (what is shared counts as often as it is met; a slice's spare places count too). A statement '..UptoSaid' is the law's where the arguments, and the package variables that the reading takes, are together of bulk at most 1048576: NARROWER than '..Said'. Prove '..Said' where nothing that the law and all that it calls make is longer than what came in: it says more and counts as full. Else prove '..UptoSaid'. A law counts once. -/
mutual
def uptoBulk {H : Type} : DataW H → Nat
  | .lit (.string bytes) => bytes.length + 1
  | .lit _ => 1
  | .nil => 1
  | .ptr d => uptoBulk d + 1
  | .slice elems spare => uptoBulkAll elems + uptoBulkAll spare + 1
  | .agg parts => uptoBulkAll parts + 1
  | .iface _ d => uptoBulk d + 1
  | .map entries => uptoBulkEntries entries + 1
  | .held _ => 1
def uptoBulkAll {H : Type} : List (DataW H) → Nat
  | [] => 0
  | d :: r => uptoBulk d + uptoBulkAll r
def uptoBulkEntries {H : Type} : List (Lit × DataW H) → Nat
  | [] => 0
  | x :: r => uptoBulkEntry x + uptoBulkEntries r
def uptoBulkEntry {H : Type} : Lit × DataW H → Nat
  | (.string bytes, d) => bytes.length + uptoBulk d + 1
  | (_, d) => uptoBulk d + 1
 end
def uptoSmall : (H : Type) → List (DataW H) → Bool := fun _ ds => decide (uptoBulkAll ds ≤ 1048576)
def OpenSpec.upto (s : _root_.Go.ChangeSpec) : _root_.Go.OpenSpec := { _root_.Go.OpenSpec.ofChange s with cond := some uptoSmall }

/-- 'blazonlaw04.CutPrices', WHERE WHAT IT READS IS OF BULK AT MOST 1048576: true; the input reads as it did. -/
def cutPricesUptoRow : OpenClaim := { program := "ytecaaimaeaocbaadoor", sum := "0962e7c5a3f66321f7ff4432df8bc3dc0f2514f1ddf9b4f996c4f73e84ccc26b", func := "blazon/blazonlaw04.CutPrices", spec := "cutPrices", recurses := true, named := ["strconv.ErrSyntax", "strconv.ErrRange", "internal/strconv.uint64pow10", "math/bits.deBruijn32tab", "math/bits.deBruijn64tab"], apart := false, laid := [("math/bits.deBruijn32tab", laid_math_bits_deBruijn32tab), ("math/bits.deBruijn64tab", laid_math_bits_deBruijn64tab), ("internal/strconv.uint64pow10", laid_internal_strconv_uint64pow10), ("strconv.ErrRange", laid_strconv_ErrRange), ("strconv.ErrSyntax", laid_strconv_ErrSyntax)], narrowed := true }
def CutPricesUptoSaid : Prop := cutPricesUptoRow.holds Tryd.pinned (OpenSpec.upto cutPricesSpec)

/-- 'blazonlaw04.CutFits', WHERE WHAT IT READS IS OF BULK AT MOST 1048576: true; the input reads as it did. -/
def cutFitsUptoRow : OpenClaim := { program := "ytecaaimaeaocbaadoor", sum := "0962e7c5a3f66321f7ff4432df8bc3dc0f2514f1ddf9b4f996c4f73e84ccc26b", func := "blazon/blazonlaw04.CutFits", spec := "cutFits", recurses := true, named := ["strconv.ErrSyntax", "strconv.ErrRange", "internal/strconv.uint64pow10", "math/bits.deBruijn32tab", "math/bits.deBruijn64tab"], apart := false, laid := [("math/bits.deBruijn32tab", laid_math_bits_deBruijn32tab), ("math/bits.deBruijn64tab", laid_math_bits_deBruijn64tab), ("internal/strconv.uint64pow10", laid_internal_strconv_uint64pow10), ("strconv.ErrRange", laid_strconv_ErrRange), ("strconv.ErrSyntax", laid_strconv_ErrSyntax)], narrowed := true }
def CutFitsUptoSaid : Prop := cutFitsUptoRow.holds Tryd.pinned (OpenSpec.upto cutFitsSpec)

/-- 'blazonlaw04.CutClashes', WHERE WHAT IT READS IS OF BULK AT MOST 1048576: true; the input reads as it did. -/
def cutClashesUptoRow : OpenClaim := { program := "ytecaaimaeaocbaadoor", sum := "0962e7c5a3f66321f7ff4432df8bc3dc0f2514f1ddf9b4f996c4f73e84ccc26b", func := "blazon/blazonlaw04.CutClashes", spec := "cutClashes", recurses := true, named := ["strconv.ErrSyntax", "strconv.ErrRange", "internal/strconv.uint64pow10", "math/bits.deBruijn32tab", "math/bits.deBruijn64tab"], apart := false, laid := [("math/bits.deBruijn32tab", laid_math_bits_deBruijn32tab), ("math/bits.deBruijn64tab", laid_math_bits_deBruijn64tab), ("internal/strconv.uint64pow10", laid_internal_strconv_uint64pow10), ("strconv.ErrRange", laid_strconv_ErrRange), ("strconv.ErrSyntax", laid_strconv_ErrSyntax)], narrowed := true }
def CutClashesUptoSaid : Prop := cutClashesUptoRow.holds Tryd.pinned (OpenSpec.upto cutClashesSpec)

/-- 'blazonlaw04.CutLeast', WHERE WHAT IT READS IS OF BULK AT MOST 1048576: true; the input reads as it did. -/
def cutLeastUptoRow : OpenClaim := { program := "ytecaaimaeaocbaadoor", sum := "0962e7c5a3f66321f7ff4432df8bc3dc0f2514f1ddf9b4f996c4f73e84ccc26b", func := "blazon/blazonlaw04.CutLeast", spec := "cutLeast", recurses := true, named := ["strconv.ErrSyntax", "strconv.ErrRange", "internal/strconv.uint64pow10", "math/bits.deBruijn32tab", "math/bits.deBruijn64tab"], apart := false, laid := [("math/bits.deBruijn32tab", laid_math_bits_deBruijn32tab), ("math/bits.deBruijn64tab", laid_math_bits_deBruijn64tab), ("internal/strconv.uint64pow10", laid_internal_strconv_uint64pow10), ("strconv.ErrRange", laid_strconv_ErrRange), ("strconv.ErrSyntax", laid_strconv_ErrSyntax)], narrowed := true }
def CutLeastUptoSaid : Prop := cutLeastUptoRow.holds Tryd.pinned (OpenSpec.upto cutLeastSpec)

/-- 'blazonlaw04.CutMore', WHERE WHAT IT READS IS OF BULK AT MOST 1048576: true; the input reads as it did. -/
def cutMoreUptoRow : OpenClaim := { program := "ytecaaimaeaocbaadoor", sum := "0962e7c5a3f66321f7ff4432df8bc3dc0f2514f1ddf9b4f996c4f73e84ccc26b", func := "blazon/blazonlaw04.CutMore", spec := "cutMore", recurses := true, named := ["strconv.ErrSyntax", "strconv.ErrRange", "internal/strconv.uint64pow10", "math/bits.deBruijn32tab", "math/bits.deBruijn64tab"], apart := false, laid := [("math/bits.deBruijn32tab", laid_math_bits_deBruijn32tab), ("math/bits.deBruijn64tab", laid_math_bits_deBruijn64tab), ("internal/strconv.uint64pow10", laid_internal_strconv_uint64pow10), ("strconv.ErrRange", laid_strconv_ErrRange), ("strconv.ErrSyntax", laid_strconv_ErrSyntax)], narrowed := true }
def CutMoreUptoSaid : Prop := cutMoreUptoRow.holds Tryd.pinned (OpenSpec.upto cutMoreSpec)

/-- 'blazonlaw04.CutUsed', WHERE WHAT IT READS IS OF BULK AT MOST 1048576: true; the input reads as it did. -/
def cutUsedUptoRow : OpenClaim := { program := "ytecaaimaeaocbaadoor", sum := "0962e7c5a3f66321f7ff4432df8bc3dc0f2514f1ddf9b4f996c4f73e84ccc26b", func := "blazon/blazonlaw04.CutUsed", spec := "cutUsed", recurses := true, named := ["strconv.ErrSyntax", "strconv.ErrRange", "internal/strconv.uint64pow10", "math/bits.deBruijn32tab", "math/bits.deBruijn64tab"], apart := false, laid := [("math/bits.deBruijn32tab", laid_math_bits_deBruijn32tab), ("math/bits.deBruijn64tab", laid_math_bits_deBruijn64tab), ("internal/strconv.uint64pow10", laid_internal_strconv_uint64pow10), ("strconv.ErrRange", laid_strconv_ErrRange), ("strconv.ErrSyntax", laid_strconv_ErrSyntax)], narrowed := true }
def CutUsedUptoSaid : Prop := cutUsedUptoRow.holds Tryd.pinned (OpenSpec.upto cutUsedSpec)

/-- 'blazonlaw04.CutPlaces', WHERE WHAT IT READS IS OF BULK AT MOST 1048576: true; the input reads as it did. -/
def cutPlacesUptoRow : OpenClaim := { program := "ytecaaimaeaocbaadoor", sum := "0962e7c5a3f66321f7ff4432df8bc3dc0f2514f1ddf9b4f996c4f73e84ccc26b", func := "blazon/blazonlaw04.CutPlaces", spec := "cutPlaces", recurses := true, named := ["strconv.ErrSyntax", "strconv.ErrRange", "internal/strconv.uint64pow10", "math/bits.deBruijn32tab", "math/bits.deBruijn64tab"], apart := false, laid := [("math/bits.deBruijn32tab", laid_math_bits_deBruijn32tab), ("math/bits.deBruijn64tab", laid_math_bits_deBruijn64tab), ("internal/strconv.uint64pow10", laid_internal_strconv_uint64pow10), ("strconv.ErrRange", laid_strconv_ErrRange), ("strconv.ErrSyntax", laid_strconv_ErrSyntax)], narrowed := true }
def CutPlacesUptoSaid : Prop := cutPlacesUptoRow.holds Tryd.pinned (OpenSpec.upto cutPlacesSpec)

/-- 'blazonlaw04.CutParses', WHERE WHAT IT READS IS OF BULK AT MOST 1048576: true; the input reads as it did. -/
def cutParsesUptoRow : OpenClaim := { program := "ytecaaimaeaocbaadoor", sum := "0962e7c5a3f66321f7ff4432df8bc3dc0f2514f1ddf9b4f996c4f73e84ccc26b", func := "blazon/blazonlaw04.CutParses", spec := "cutParses", inPlace := ["internal/abi.NoEscape"], recurses := true, named := ["strconv.ErrSyntax", "strconv.ErrRange", "internal/strconv.uint64pow10", "math/bits.deBruijn32tab", "math/bits.deBruijn64tab"], apart := false, laid := [("math/bits.deBruijn32tab", laid_math_bits_deBruijn32tab), ("math/bits.deBruijn64tab", laid_math_bits_deBruijn64tab), ("internal/strconv.uint64pow10", laid_internal_strconv_uint64pow10), ("strconv.ErrRange", laid_strconv_ErrRange), ("strconv.ErrSyntax", laid_strconv_ErrSyntax)], narrowed := true }
def CutParsesUptoSaid : Prop := cutParsesUptoRow.holds Tryd.pinned (OpenSpec.upto cutParsesSpec)

/-- 'blazonlaw04.CutFormats', WHERE WHAT IT READS IS OF BULK AT MOST 1048576: true; the input reads as it did. -/
def cutFormatsUptoRow : OpenClaim := { program := "ytecaaimaeaocbaadoor", sum := "0962e7c5a3f66321f7ff4432df8bc3dc0f2514f1ddf9b4f996c4f73e84ccc26b", func := "blazon/blazonlaw04.CutFormats", spec := "cutFormats", inPlace := ["internal/abi.NoEscape"], recurses := true, named := ["strconv.ErrSyntax", "strconv.ErrRange", "internal/strconv.uint64pow10", "math/bits.deBruijn32tab", "math/bits.deBruijn64tab"], loops := true, apart := false, laid := [("math/bits.deBruijn32tab", laid_math_bits_deBruijn32tab), ("math/bits.deBruijn64tab", laid_math_bits_deBruijn64tab), ("internal/strconv.uint64pow10", laid_internal_strconv_uint64pow10), ("strconv.ErrRange", laid_strconv_ErrRange), ("strconv.ErrSyntax", laid_strconv_ErrSyntax)], narrowed := true }
def CutFormatsUptoSaid : Prop := cutFormatsUptoRow.holds Tryd.pinned (OpenSpec.upto cutFormatsSpec)

/-- 'blazonlaw04.CutApart', WHERE WHAT IT READS IS OF BULK AT MOST 1048576: true; the input reads as it did. -/
def cutApartUptoRow : OpenClaim := { program := "ytecaaimaeaocbaadoor", sum := "0962e7c5a3f66321f7ff4432df8bc3dc0f2514f1ddf9b4f996c4f73e84ccc26b", func := "blazon/blazonlaw04.CutApart", spec := "cutApart", recurses := true, named := ["strconv.ErrSyntax", "strconv.ErrRange", "internal/strconv.uint64pow10", "math/bits.deBruijn32tab", "math/bits.deBruijn64tab"], apart := false, laid := [("math/bits.deBruijn32tab", laid_math_bits_deBruijn32tab), ("math/bits.deBruijn64tab", laid_math_bits_deBruijn64tab), ("internal/strconv.uint64pow10", laid_internal_strconv_uint64pow10), ("strconv.ErrRange", laid_strconv_ErrRange), ("strconv.ErrSyntax", laid_strconv_ErrSyntax)], narrowed := true }
def CutApartUptoSaid : Prop := cutApartUptoRow.holds Tryd.pinned (OpenSpec.upto cutApartSpec)

/-- 'blazonlaw04.CutLong', WHERE WHAT IT READS IS OF BULK AT MOST 1048576: true; the input reads as it did. -/
def cutLongUptoRow : OpenClaim := { program := "ytecaaimaeaocbaadoor", sum := "0962e7c5a3f66321f7ff4432df8bc3dc0f2514f1ddf9b4f996c4f73e84ccc26b", func := "blazon/blazonlaw04.CutLong", spec := "cutLong", unfollowed := true, recurses := true, named := ["strconv.ErrSyntax", "strconv.ErrRange", "internal/strconv.uint64pow10", "math/bits.deBruijn32tab", "math/bits.deBruijn64tab"], apart := false, laid := [("math/bits.deBruijn32tab", laid_math_bits_deBruijn32tab), ("math/bits.deBruijn64tab", laid_math_bits_deBruijn64tab), ("internal/strconv.uint64pow10", laid_internal_strconv_uint64pow10), ("strconv.ErrRange", laid_strconv_ErrRange), ("strconv.ErrSyntax", laid_strconv_ErrSyntax)], narrowed := true }
def CutLongUptoSaid : Prop := cutLongUptoRow.holds Tryd.pinned (OpenSpec.upto cutLongSpec)

/-- 'blazonlaw04.CutCanonical', WHERE WHAT IT READS IS OF BULK AT MOST 1048576: true; the input reads as it did. -/
def cutCanonicalUptoRow : OpenClaim := { program := "ytecaaimaeaocbaadoor", sum := "0962e7c5a3f66321f7ff4432df8bc3dc0f2514f1ddf9b4f996c4f73e84ccc26b", func := "blazon/blazonlaw04.CutCanonical", spec := "cutCanonical", unfollowed := true, recurses := true, named := ["strconv.ErrSyntax", "strconv.ErrRange", "internal/strconv.uint64pow10", "math/bits.deBruijn32tab", "math/bits.deBruijn64tab"], apart := false, laid := [("math/bits.deBruijn32tab", laid_math_bits_deBruijn32tab), ("math/bits.deBruijn64tab", laid_math_bits_deBruijn64tab), ("internal/strconv.uint64pow10", laid_internal_strconv_uint64pow10), ("strconv.ErrRange", laid_strconv_ErrRange), ("strconv.ErrSyntax", laid_strconv_ErrSyntax)], narrowed := true }
def CutCanonicalUptoSaid : Prop := cutCanonicalUptoRow.holds Tryd.pinned (OpenSpec.upto cutCanonicalSpec)

/-- 'blazonlaw04.CutGreedy', WHERE WHAT IT READS IS OF BULK AT MOST 1048576: true; the input reads as it did. -/
def cutGreedyUptoRow : OpenClaim := { program := "ytecaaimaeaocbaadoor", sum := "0962e7c5a3f66321f7ff4432df8bc3dc0f2514f1ddf9b4f996c4f73e84ccc26b", func := "blazon/blazonlaw04.CutGreedy", spec := "cutGreedy", unfollowed := true, recurses := true, named := ["strconv.ErrSyntax", "strconv.ErrRange", "internal/strconv.uint64pow10", "math/bits.deBruijn32tab", "math/bits.deBruijn64tab"], apart := false, laid := [("math/bits.deBruijn32tab", laid_math_bits_deBruijn32tab), ("math/bits.deBruijn64tab", laid_math_bits_deBruijn64tab), ("internal/strconv.uint64pow10", laid_internal_strconv_uint64pow10), ("strconv.ErrRange", laid_strconv_ErrRange), ("strconv.ErrSyntax", laid_strconv_ErrSyntax)], narrowed := true }
def CutGreedyUptoSaid : Prop := cutGreedyUptoRow.holds Tryd.pinned (OpenSpec.upto cutGreedySpec)

/-- 'blazonlaw04.CutChecks', WHERE WHAT IT READS IS OF BULK AT MOST 1048576: true; the input reads as it did. -/
def cutChecksUptoRow : OpenClaim := { program := "ytecaaimaeaocbaadoor", sum := "0962e7c5a3f66321f7ff4432df8bc3dc0f2514f1ddf9b4f996c4f73e84ccc26b", func := "blazon/blazonlaw04.CutChecks", spec := "cutChecks", unfollowed := true, recurses := true, named := ["strconv.ErrSyntax", "strconv.ErrRange", "internal/strconv.uint64pow10", "math/bits.deBruijn32tab", "math/bits.deBruijn64tab"], apart := false, laid := [("math/bits.deBruijn32tab", laid_math_bits_deBruijn32tab), ("math/bits.deBruijn64tab", laid_math_bits_deBruijn64tab), ("internal/strconv.uint64pow10", laid_internal_strconv_uint64pow10), ("strconv.ErrRange", laid_strconv_ErrRange), ("strconv.ErrSyntax", laid_strconv_ErrSyntax)], narrowed := true }
def CutChecksUptoSaid : Prop := cutChecksUptoRow.holds Tryd.pinned (OpenSpec.upto cutChecksSpec)

end Rows
end Go.Proofs.YtecaaimaeaocbaaDoor
