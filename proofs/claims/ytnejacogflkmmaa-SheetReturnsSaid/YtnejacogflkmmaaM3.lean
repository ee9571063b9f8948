/- Parts of the proofs of this seat: Iters. Each part says what it proves; no condition beyond those stated there. -/
import Derived.Test.YtnejacogflkmmaaRows
import Derived.Shelf.SlIterI.Sorted
import Derived.Shelf.SortM.Plain
import Derived.Shelf.SortM.SortNone
import Derived.Shelf.SlMaps.Clone
import Derived.Shelf.Slices.CompactI
import Derived.Test.YtnejacogflkmmaaM1

/- Keys of maps in order, sorting, what stands twice, copies of maps: the library's contracts over this program. -/
namespace Go.Proofs.Ytnejacogflkmmaa
open Go Go.RowKit Go.Maps Go.Sort Go.Shelf
def keysIRen : Ren where
  f := fun x => match x with
    | 7 => 50
    | 10 => 65
    | n => n
  t := fun x => match x with
    | 0 => 0
    | 3 => 54
    | 4 => 4
    | 23 => 74
    | 26 => 3
    | 27 => 95
    | 28 => 96
    | 33 => 117
    | n => n
  g := fun n => n
theorem keysILays : SlLaysZI.n7 Try.prog keysIRen where
  mixed := by kernel_rfl
  f7 :=⟨ "maps.Keys[map[int]blazon/api.Sheet,int,blazon/api.Sheet]", by decide, by kernel_rfl⟩
  f10 :=⟨ "maps.Keys[map[int]blazon/api.Sheet,int,blazon/api.Sheet]$1", by decide, by kernel_rfl⟩
  t0 := by kernel_rfl
  a0 := fun _ => by kernel_rfl
  z0 := fun _ => by kernel_rfl
  v0 := fun _ => by kernel_rfl
  t4 := by kernel_rfl
  a4 := fun _ => by kernel_rfl
  z4 := fun _ => by kernel_rfl
  v4 := fun _ => by kernel_rfl
  t23 := by kernel_rfl
  a23 := fun _ => by kernel_rfl
  z23 := fun _ => by kernel_rfl
  v23 := fun _ => by kernel_rfl
  t26 := by kernel_rfl
  a26 := fun _ => by kernel_rfl
  z26 := fun _ => by kernel_rfl
  v26 := fun _ => by kernel_rfl
  t27 := by kernel_rfl
  a27 := fun _ => by kernel_rfl
  z27 := fun _ => by kernel_rfl
  v27 := fun _ => by kernel_rfl
  t28 := by kernel_rfl
  a28 := fun _ => by kernel_rfl
  z28 := fun _ => by kernel_rfl
  v28 := fun _ => by kernel_rfl
  t33 := by kernel_rfl
  a33 := fun _ => by kernel_rfl
  z33 := fun _ => by kernel_rfl
  v33 := fun _ => by kernel_rfl
def keysPRen : Ren where
  f := fun x => match x with
    | 7 => 47
    | 10 => 62
    | n => n
  t := fun x => match x with
    | 0 => 0
    | 3 => 48
    | 4 => 4
    | 23 => 75
    | 26 => 3
    | 27 => 95
    | 28 => 96
    | 33 => 117
    | n => n
  g := fun n => n
theorem keysPLays : SlLaysZI.n7 Try.prog keysPRen where
  mixed := by kernel_rfl
  f7 :=⟨ "maps.Keys[map[int]blazon/api.Piece,int,blazon/api.Piece]", by decide, by kernel_rfl⟩
  f10 :=⟨ "maps.Keys[map[int]blazon/api.Piece,int,blazon/api.Piece]$1", by decide, by kernel_rfl⟩
  t0 := by kernel_rfl
  a0 := fun _ => by kernel_rfl
  z0 := fun _ => by kernel_rfl
  v0 := fun _ => by kernel_rfl
  t4 := by kernel_rfl
  a4 := fun _ => by kernel_rfl
  z4 := fun _ => by kernel_rfl
  v4 := fun _ => by kernel_rfl
  t23 := by kernel_rfl
  a23 := fun _ => by kernel_rfl
  z23 := fun _ => by kernel_rfl
  v23 := fun _ => by kernel_rfl
  t26 := by kernel_rfl
  a26 := fun _ => by kernel_rfl
  z26 := fun _ => by kernel_rfl
  v26 := fun _ => by kernel_rfl
  t27 := by kernel_rfl
  a27 := fun _ => by kernel_rfl
  z27 := fun _ => by kernel_rfl
  v27 := fun _ => by kernel_rfl
  t28 := by kernel_rfl
  a28 := fun _ => by kernel_rfl
  z28 := fun _ => by kernel_rfl
  v28 := fun _ => by kernel_rfl
  t33 := by kernel_rfl
  a33 := fun _ => by kernel_rfl
  z33 := fun _ => by kernel_rfl
  v33 := fun _ => by kernel_rfl
def keysLRen : Ren where
  f := fun x => match x with
    | 7 => 66
    | 10 => 83
    | n => n
  t := fun x => match x with
    | 0 => 0
    | 3 => 99
    | 4 => 4
    | 23 => 77
    | 26 => 3
    | 27 => 95
    | 28 => 96
    | 33 => 117
    | n => n
  g := fun n => n
theorem keysLLays : SlLaysZI.n7 Try.prog keysLRen where
  mixed := by kernel_rfl
  f7 :=⟨ "maps.Keys[map[int]blazon/sheet.kindred,int,blazon/sheet.kindred]", by decide, by kernel_rfl⟩
  f10 :=⟨ "maps.Keys[map[int]blazon/sheet.kindred,int,blazon/sheet.kindred]$1", by decide, by kernel_rfl⟩
  t0 := by kernel_rfl
  a0 := fun _ => by kernel_rfl
  z0 := fun _ => by kernel_rfl
  v0 := fun _ => by kernel_rfl
  t4 := by kernel_rfl
  a4 := fun _ => by kernel_rfl
  z4 := fun _ => by kernel_rfl
  v4 := fun _ => by kernel_rfl
  t23 := by kernel_rfl
  a23 := fun _ => by kernel_rfl
  z23 := fun _ => by kernel_rfl
  v23 := fun _ => by kernel_rfl
  t26 := by kernel_rfl
  a26 := fun _ => by kernel_rfl
  z26 := fun _ => by kernel_rfl
  v26 := fun _ => by kernel_rfl
  t27 := by kernel_rfl
  a27 := fun _ => by kernel_rfl
  z27 := fun _ => by kernel_rfl
  v27 := fun _ => by kernel_rfl
  t28 := by kernel_rfl
  a28 := fun _ => by kernel_rfl
  z28 := fun _ => by kernel_rfl
  v28 := fun _ => by kernel_rfl
  t33 := by kernel_rfl
  a33 := fun _ => by kernel_rfl
  z33 := fun _ => by kernel_rfl
  v33 := fun _ => by kernel_rfl
def sortedIRen : Ren where
  f := fun x => match x with
    | 6 => 46
    | 8 => 61
    | 9 => 48
    | 11 => 71
    | 12 => 63
    | 13 => 64
    | 14 => 72
    | 15 => 73
    | 16 => 74
    | 17 => 75
    | 18 => 76
    | 19 => 77
    | 20 => 78
    | 21 => 79
    | 22 => 80
    | 23 => 81
    | 24 => 82
    | 25 => 89
    | 26 => 90
    | 27 => 91
    | 28 => 92
    | 29 => 93
    | 30 => 94
    | 31 => 99
    | n => n
  t := fun x => match x with
    | 0 => 0
    | 3 => 3
    | 4 => 4
    | 5 => 5
    | 9 => 9
    | 24 => 43
    | 26 => 3
    | 28 => 96
    | 33 => 117
    | 37 => 71
    | 39 => 127
    | 40 => 128
    | 45 => 32
    | 48 => 135
    | 50 => 137
    | 51 => 142
    | 55 => 146
    | 57 => 151
    | 58 => 152
    | n => n
  g := fun n => n
theorem sortedILays : SlLaysZI.n6 Try.prog sortedIRen where
  mixed := by kernel_rfl
  f6 :=⟨ "slices.Sorted[int]", by decide, by kernel_rfl⟩
  f8 :=⟨ "slices.Collect[int]", by decide, by kernel_rfl⟩
  f11 :=⟨ "slices.AppendSeq[[]int,int]", by decide, by kernel_rfl⟩
  t0 := by kernel_rfl
  a0 := fun _ => by kernel_rfl
  z0 := fun _ => by kernel_rfl
  v0 := fun _ => by kernel_rfl
  t24 := by kernel_rfl
  a24 := fun _ => by kernel_rfl
  z24 := fun _ => by kernel_rfl
  v24 := fun _ => by kernel_rfl
  t26 := by kernel_rfl
  a26 := fun _ => by kernel_rfl
  z26 := fun _ => by kernel_rfl
  v26 := fun _ => by kernel_rfl
  t28 := by kernel_rfl
  a28 := fun _ => by kernel_rfl
  z28 := fun _ => by kernel_rfl
  v28 := fun _ => by kernel_rfl
  i26 := by kernel_rfl
def sortIRen : Ren where
  f := fun x => match x with
    | 5 => 48
    | 7 => 63
    | 8 => 64
    | 10 => 72
    | 11 => 73
    | 12 => 74
    | 13 => 75
    | 14 => 76
    | 15 => 77
    | 16 => 78
    | 17 => 79
    | 18 => 80
    | 19 => 81
    | 20 => 82
    | 30 => 89
    | 31 => 90
    | 32 => 91
    | 33 => 92
    | 34 => 93
    | 35 => 94
    | 40 => 99
    | n => n
  t := fun x => match x with
    | 0 => 0
    | 3 => 3
    | 4 => 4
    | 5 => 5
    | 9 => 9
    | 22 => 43
    | 23 => 43
    | 25 => 3
    | 32 => 71
    | 35 => 127
    | 36 => 128
    | 41 => 32
    | 44 => 135
    | 46 => 137
    | 53 => 142
    | 57 => 146
    | 63 => 151
    | 64 => 152
    | n => n
  g := fun n => n
theorem sortILays : SlLaysM.n5 Try.prog sortIRen where
  mixed := by kernel_rfl
  f5 :=⟨ "slices.Sort[[]int,int]", by decide, by kernel_rfl⟩
  f7 :=⟨ "slices.pdqsortOrdered[int]", by decide, by kernel_rfl⟩
  f8 := by kernel_rfl
  f10 :=⟨ "slices.insertionSortOrdered[int]", by decide, by kernel_rfl⟩
  f11 :=⟨ "slices.heapSortOrdered[int]", by decide, by kernel_rfl⟩
  f12 :=⟨ "slices.breakPatternsOrdered[int]", by decide, by kernel_rfl⟩
  f13 :=⟨ "slices.choosePivotOrdered[int]", by decide, by kernel_rfl⟩
  f14 :=⟨ "slices.reverseRangeOrdered[int]", by decide, by kernel_rfl⟩
  f15 :=⟨ "slices.partialInsertionSortOrdered[int]", by decide, by kernel_rfl⟩
  f16 :=⟨ "cmp.Less[int]", by decide, by kernel_rfl⟩
  f17 :=⟨ "slices.partitionEqualOrdered[int]", by decide, by kernel_rfl⟩
  f18 :=⟨ "slices.partitionOrdered[int]", by decide, by kernel_rfl⟩
  f19 := by kernel_rfl
  f20 := by kernel_rfl
  f30 :=⟨ "slices.siftDownOrdered[int]", by decide, by kernel_rfl⟩
  f31 := by kernel_rfl
  f32 := by kernel_rfl
  f33 :=⟨ "slices.medianAdjacentOrdered[int]", by decide, by kernel_rfl⟩
  f34 :=⟨ "slices.medianOrdered[int]", by decide, by kernel_rfl⟩
  f35 :=⟨ "cmp.isNaN[int]", by decide, by kernel_rfl⟩
  f40 :=⟨ "slices.order2Ordered[int]", by decide, by kernel_rfl⟩
  t0 := by kernel_rfl
  a0 := fun _ => by kernel_rfl
  z0 := fun _ => by kernel_rfl
  v0 := fun _ => by kernel_rfl
  t3 := by kernel_rfl
  a3 := fun _ => by kernel_rfl
  z3 := fun _ => by kernel_rfl
  v3 := fun _ => by kernel_rfl
  t4 := by kernel_rfl
  a4 := fun _ => by kernel_rfl
  z4 := fun _ => by kernel_rfl
  v4 := fun _ => by kernel_rfl
  t5 := by kernel_rfl
  a5 := fun _ => by kernel_rfl
  z5 := fun _ => by kernel_rfl
  v5 := fun _ => by kernel_rfl
  t9 := by kernel_rfl
  a9 := fun _ => by kernel_rfl
  z9 := fun _ => by kernel_rfl
  v9 := fun _ => by kernel_rfl
  t22 := by kernel_rfl
  a22 := fun _ => by kernel_rfl
  z22 := fun _ => by kernel_rfl
  v22 := fun _ => by kernel_rfl
  t23 := by kernel_rfl
  a23 := fun _ => by kernel_rfl
  z23 := fun _ => by kernel_rfl
  v23 := fun _ => by kernel_rfl
  t25 := by kernel_rfl
  a25 := fun _ => by kernel_rfl
  z25 := fun _ => by kernel_rfl
  v25 := fun _ => by kernel_rfl
  t32 := by kernel_rfl
  a32 := fun _ => by kernel_rfl
  z32 := fun _ => by kernel_rfl
  v32 := fun _ => by kernel_rfl
  t35 := by kernel_rfl
  a35 := fun _ => by kernel_rfl
  z35 := fun _ => by kernel_rfl
  v35 := fun _ => by kernel_rfl
  t36 := by kernel_rfl
  a36 := fun _ => by kernel_rfl
  z36 := fun _ => by kernel_rfl
  v36 := fun _ => by kernel_rfl
  t41 := by kernel_rfl
  a41 := fun _ => by kernel_rfl
  z41 := fun _ => by kernel_rfl
  v41 := fun _ => by kernel_rfl
  t44 := by kernel_rfl
  a44 := fun _ => by kernel_rfl
  z44 := fun _ => by kernel_rfl
  v44 := fun _ => by kernel_rfl
  t46 := by kernel_rfl
  a46 := fun _ => by kernel_rfl
  z46 := fun _ => by kernel_rfl
  v46 := fun _ => by kernel_rfl
  t53 := by kernel_rfl
  a53 := fun _ => by kernel_rfl
  z53 := fun _ => by kernel_rfl
  v53 := fun _ => by kernel_rfl
  t57 := by kernel_rfl
  a57 := fun _ => by kernel_rfl
  z57 := fun _ => by kernel_rfl
  v57 := fun _ => by kernel_rfl
  t63 := by kernel_rfl
  a63 := fun _ => by kernel_rfl
  z63 := fun _ => by kernel_rfl
  v63 := fun _ => by kernel_rfl
  t64 := by kernel_rfl
  a64 := fun _ => by kernel_rfl
  z64 := fun _ => by kernel_rfl
  v64 := fun _ => by kernel_rfl
def cloneIRen : Ren where
  f := fun x => match x with
    | 5 => 57
    | 7 => 70
    | n => n
  t := fun x => match x with
    | 3 => 54
    | 4 => 4
    | 20 => 20
    | 23 => 74
    | 25 => 3
    | n => n
  g := fun n => n
theorem cloneILays : SlLaysW.n5 Try.prog cloneIRen where
  mixed := by kernel_rfl
  f5 :=⟨ "maps.Clone[map[int]blazon/api.Sheet,int,blazon/api.Sheet]", by decide, by kernel_rfl⟩
  f7 := by kernel_rfl
  t4 := by kernel_rfl
  a4 := fun _ => by kernel_rfl
  z4 := fun _ => by kernel_rfl
  v4 := fun _ => by kernel_rfl
  t20 := by kernel_rfl
  a20 := fun _ => by kernel_rfl
  z20 := fun _ => by kernel_rfl
  v20 := fun _ => by kernel_rfl
  t23 := by kernel_rfl
  a23 := fun _ => by kernel_rfl
  z23 := fun _ => by kernel_rfl
  v23 := fun _ => by kernel_rfl
def clonePRen : Ren where
  f := fun x => match x with
    | 5 => 58
    | 7 => 70
    | n => n
  t := fun x => match x with
    | 3 => 48
    | 4 => 4
    | 20 => 20
    | 23 => 75
    | 25 => 3
    | n => n
  g := fun n => n
theorem clonePLays : SlLaysW.n5 Try.prog clonePRen where
  mixed := by kernel_rfl
  f5 :=⟨ "maps.Clone[map[int]blazon/api.Piece,int,blazon/api.Piece]", by decide, by kernel_rfl⟩
  f7 := by kernel_rfl
  t4 := by kernel_rfl
  a4 := fun _ => by kernel_rfl
  z4 := fun _ => by kernel_rfl
  v4 := fun _ => by kernel_rfl
  t20 := by kernel_rfl
  a20 := fun _ => by kernel_rfl
  z20 := fun _ => by kernel_rfl
  v20 := fun _ => by kernel_rfl
  t23 := by kernel_rfl
  a23 := fun _ => by kernel_rfl
  z23 := fun _ => by kernel_rfl
  v23 := fun _ => by kernel_rfl
def cloneQRen : Ren where
  f := fun x => match x with
    | 5 => 59
    | 7 => 70
    | n => n
  t := fun x => match x with
    | 3 => 3
    | 4 => 4
    | 20 => 20
    | 23 => 76
    | 25 => 3
    | n => n
  g := fun n => n
theorem cloneQLays : SlLaysW.n5 Try.prog cloneQRen where
  mixed := by kernel_rfl
  f5 :=⟨ "maps.Clone[map[int]int,int,int]", by decide, by kernel_rfl⟩
  f7 := by kernel_rfl
  t4 := by kernel_rfl
  a4 := fun _ => by kernel_rfl
  z4 := fun _ => by kernel_rfl
  v4 := fun _ => by kernel_rfl
  t20 := by kernel_rfl
  a20 := fun _ => by kernel_rfl
  z20 := fun _ => by kernel_rfl
  v20 := fun _ => by kernel_rfl
  t23 := by kernel_rfl
  a23 := fun _ => by kernel_rfl
  z23 := fun _ => by kernel_rfl
  v23 := fun _ => by kernel_rfl
def cloneLRen : Ren where
  f := fun x => match x with
    | 5 => 60
    | 7 => 70
    | n => n
  t := fun x => match x with
    | 3 => 99
    | 4 => 4
    | 20 => 20
    | 23 => 77
    | 25 => 3
    | n => n
  g := fun n => n
theorem cloneLLays : SlLaysW.n5 Try.prog cloneLRen where
  mixed := by kernel_rfl
  f5 :=⟨ "maps.Clone[map[int]blazon/sheet.kindred,int,blazon/sheet.kindred]", by decide, by kernel_rfl⟩
  f7 := by kernel_rfl
  t4 := by kernel_rfl
  a4 := fun _ => by kernel_rfl
  z4 := fun _ => by kernel_rfl
  v4 := fun _ => by kernel_rfl
  t20 := by kernel_rfl
  a20 := fun _ => by kernel_rfl
  z20 := fun _ => by kernel_rfl
  v20 := fun _ => by kernel_rfl
  t23 := by kernel_rfl
  a23 := fun _ => by kernel_rfl
  z23 := fun _ => by kernel_rfl
  v23 := fun _ => by kernel_rfl
def compIRen : Ren where
  f := fun x => match x with
    | 20 => 49
    | n => n
  t := fun x => match x with
    | 0 => 0
    | 3 => 3
    | 4 => 4
    | 22 => 43
    | n => n
  g := fun n => n
theorem compILays : Lays2.n20 Try.prog compIRen where
  mixed := by kernel_rfl
  f20 := by kernel_rfl
  t0 := by kernel_rfl
  a0 := fun _ => by kernel_rfl
  z0 := fun _ => by kernel_rfl
  v0 := fun _ => by kernel_rfl
  t3 := by kernel_rfl
  a3 := fun _ => by kernel_rfl
  z3 := fun _ => by kernel_rfl
  v3 := fun _ => by kernel_rfl
  t4 := by kernel_rfl
  a4 := fun _ => by kernel_rfl
  z4 := fun _ => by kernel_rfl
  v4 := fun _ => by kernel_rfl
  t22 := by kernel_rfl
  a22 := fun _ => by kernel_rfl
  z22 := fun _ => by kernel_rfl
  v22 := fun _ => by kernel_rfl
  i3 := by kernel_rfl
end Go.Proofs.Ytnejacogflkmmaa
