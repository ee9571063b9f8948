/- Parts of the proofs of this seat: Iters. Each part says what it proves; no condition beyond those stated there. -/
import Derived.Test.YtehlbomkldnalaaGreatRows
import Derived.Shelf.SlIterI.Sorted
import Derived.Shelf.SortM.Plain
import Derived.Shelf.SortM.SortNone
import Derived.Shelf.SlMaps.Clone
import Derived.Shelf.Slices.CompactI
import Derived.Test.YtehlbomkldnalaaGreatQ1

/- Keys of maps in order, sorting, what stands twice, copies of maps: the library's contracts over this program. -/
namespace Go.Proofs.YtehlbomkldnalaaGreat
open Go Go.RowKit Go.Maps Go.Sort Go.Shelf
def keysIRen : Ren where
 f := fun x => match x with
  | 7 => 69
  | 10 => 82
  | n => n
 t := fun x => match x with
  | 0 => 0
  | 3 => 93
  | 4 => 4
  | 23 => 62
  | 26 => 3
  | 27 => 127
  | 28 => 128
  | 33 => 143
  | n => n
 g := fun n => n
theorem keysILays : SlLaysZI.n7 Tryz.prog keysIRen where
 mixed := by kernel_rfl
 f7 :=⟨ "maps.Keys[map[int]blazon/api.Sheet,int,blazon/api.Sheet]", by decide, by kernel_rfl⟩
 f10 :=⟨ "maps.Keys[map[int]blazon/api.Sheet,int,blazon/api.Sheet]$1", by decide, by kernel_rfl⟩
 t0 := by kernel_rfl
 a0 := fun _ => by kernel_rfl
 z0 := fun _ => by kernel_rfl
 v0 := fun _ => by kernel_rfl
 t4 := by kernel_rfl
 a4 := fun _ => by kernel_rfl
 z4 := fun _ => by kernel_rfl
 v4 := fun _ => by kernel_rfl
 t23 := by kernel_rfl
 a23 := fun _ => by kernel_rfl
 z23 := fun _ => by kernel_rfl
 v23 := fun _ => by kernel_rfl
 t26 := by kernel_rfl
 a26 := fun _ => by kernel_rfl
 z26 := fun _ => by kernel_rfl
 v26 := fun _ => by kernel_rfl
 t27 := by kernel_rfl
 a27 := fun _ => by kernel_rfl
 z27 := fun _ => by kernel_rfl
 v27 := fun _ => by kernel_rfl
 t28 := by kernel_rfl
 a28 := fun _ => by kernel_rfl
 z28 := fun _ => by kernel_rfl
 v28 := fun _ => by kernel_rfl
 t33 := by kernel_rfl
 a33 := fun _ => by kernel_rfl
 z33 := fun _ => by kernel_rfl
 v33 := fun _ => by kernel_rfl
def keysPRen : Ren where
 f := fun x => match x with
  | 7 => 70
  | 10 => 83
  | n => n
 t := fun x => match x with
  | 0 => 0
  | 3 => 96
  | 4 => 4
  | 23 => 63
  | 26 => 3
  | 27 => 127
  | 28 => 128
  | 33 => 143
  | n => n
 g := fun n => n
theorem keysPLays : SlLaysZI.n7 Tryz.prog keysPRen where
 mixed := by kernel_rfl
 f7 :=⟨ "maps.Keys[map[int]blazon/api.Piece,int,blazon/api.Piece]", by decide, by kernel_rfl⟩
 f10 :=⟨ "maps.Keys[map[int]blazon/api.Piece,int,blazon/api.Piece]$1", by decide, by kernel_rfl⟩
 t0 := by kernel_rfl
 a0 := fun _ => by kernel_rfl
 z0 := fun _ => by kernel_rfl
 v0 := fun _ => by kernel_rfl
 t4 := by kernel_rfl
 a4 := fun _ => by kernel_rfl
 z4 := fun _ => by kernel_rfl
 v4 := fun _ => by kernel_rfl
 t23 := by kernel_rfl
 a23 := fun _ => by kernel_rfl
 z23 := fun _ => by kernel_rfl
 v23 := fun _ => by kernel_rfl
 t26 := by kernel_rfl
 a26 := fun _ => by kernel_rfl
 z26 := fun _ => by kernel_rfl
 v26 := fun _ => by kernel_rfl
 t27 := by kernel_rfl
 a27 := fun _ => by kernel_rfl
 z27 := fun _ => by kernel_rfl
 v27 := fun _ => by kernel_rfl
 t28 := by kernel_rfl
 a28 := fun _ => by kernel_rfl
 z28 := fun _ => by kernel_rfl
 v28 := fun _ => by kernel_rfl
 t33 := by kernel_rfl
 a33 := fun _ => by kernel_rfl
 z33 := fun _ => by kernel_rfl
 v33 := fun _ => by kernel_rfl
def keysLRen : Ren where
 f := fun x => match x with
  | 7 => 74
  | 10 => 84
  | n => n
 t := fun x => match x with
  | 0 => 0
  | 3 => 100
  | 4 => 4
  | 23 => 65
  | 26 => 3
  | 27 => 127
  | 28 => 128
  | 33 => 143
  | n => n
 g := fun n => n
theorem keysLLays : SlLaysZI.n7 Tryz.prog keysLRen where
 mixed := by kernel_rfl
 f7 :=⟨ "maps.Keys[map[int]blazon/sheet.kindred,int,blazon/sheet.kindred]", by decide, by kernel_rfl⟩
 f10 :=⟨ "maps.Keys[map[int]blazon/sheet.kindred,int,blazon/sheet.kindred]$1", by decide, by kernel_rfl⟩
 t0 := by kernel_rfl
 a0 := fun _ => by kernel_rfl
 z0 := fun _ => by kernel_rfl
 v0 := fun _ => by kernel_rfl
 t4 := by kernel_rfl
 a4 := fun _ => by kernel_rfl
 z4 := fun _ => by kernel_rfl
 v4 := fun _ => by kernel_rfl
 t23 := by kernel_rfl
 a23 := fun _ => by kernel_rfl
 z23 := fun _ => by kernel_rfl
 v23 := fun _ => by kernel_rfl
 t26 := by kernel_rfl
 a26 := fun _ => by kernel_rfl
 z26 := fun _ => by kernel_rfl
 v26 := fun _ => by kernel_rfl
 t27 := by kernel_rfl
 a27 := fun _ => by kernel_rfl
 z27 := fun _ => by kernel_rfl
 v27 := fun _ => by kernel_rfl
 t28 := by kernel_rfl
 a28 := fun _ => by kernel_rfl
 z28 := fun _ => by kernel_rfl
 v28 := fun _ => by kernel_rfl
 t33 := by kernel_rfl
 a33 := fun _ => by kernel_rfl
 z33 := fun _ => by kernel_rfl
 v33 := fun _ => by kernel_rfl
def sortedIRen : Ren where
 f := fun x => match x with
  | 6 => 68
  | 8 => 81
  | 9 => 64
  | 11 => 106
  | 12 => 79
  | 13 => 80
  | 14 => 95
  | 15 => 96
  | 16 => 97
  | 17 => 98
  | 18 => 99
  | 19 => 100
  | 20 => 101
  | 21 => 102
  | 22 => 103
  | 23 => 104
  | 24 => 105
  | 25 => 113
  | 26 => 114
  | 27 => 115
  | 28 => 116
  | 29 => 117
  | 30 => 118
  | 31 => 121
  | n => n
 t := fun x => match x with
  | 0 => 0
  | 3 => 3
  | 4 => 4
  | 5 => 5
  | 9 => 9
  | 24 => 72
  | 26 => 3
  | 28 => 128
  | 33 => 143
  | 37 => 69
  | 39 => 154
  | 40 => 155
  | 45 => 54
  | 48 => 162
  | 50 => 164
  | 51 => 169
  | 55 => 173
  | 57 => 176
  | 58 => 177
  | n => n
 g := fun n => n
theorem sortedILays : SlLaysZI.n6 Tryz.prog sortedIRen where
 mixed := by kernel_rfl
 f6 :=⟨ "slices.Sorted[int]", by decide, by kernel_rfl⟩
 f8 :=⟨ "slices.Collect[int]", by decide, by kernel_rfl⟩
 f11 :=⟨ "slices.AppendSeq[[]int,int]", by decide, by kernel_rfl⟩
 t0 := by kernel_rfl
 a0 := fun _ => by kernel_rfl
 z0 := fun _ => by kernel_rfl
 v0 := fun _ => by kernel_rfl
 t24 := by kernel_rfl
 a24 := fun _ => by kernel_rfl
 z24 := fun _ => by kernel_rfl
 v24 := fun _ => by kernel_rfl
 t26 := by kernel_rfl
 a26 := fun _ => by kernel_rfl
 z26 := fun _ => by kernel_rfl
 v26 := fun _ => by kernel_rfl
 t28 := by kernel_rfl
 a28 := fun _ => by kernel_rfl
 z28 := fun _ => by kernel_rfl
 v28 := fun _ => by kernel_rfl
 i26 := by kernel_rfl
def sortIRen : Ren where
 f := fun x => match x with
  | 5 => 64
  | 7 => 79
  | 8 => 80
  | 10 => 95
  | 11 => 96
  | 12 => 97
  | 13 => 98
  | 14 => 99
  | 15 => 100
  | 16 => 101
  | 17 => 102
  | 18 => 103
  | 19 => 104
  | 20 => 105
  | 30 => 113
  | 31 => 114
  | 32 => 115
  | 33 => 116
  | 34 => 117
  | 35 => 118
  | 40 => 121
  | n => n
 t := fun x => match x with
  | 0 => 0
  | 3 => 3
  | 4 => 4
  | 5 => 5
  | 9 => 9
  | 22 => 72
  | 23 => 72
  | 25 => 3
  | 32 => 69
  | 35 => 154
  | 36 => 155
  | 41 => 54
  | 44 => 162
  | 46 => 164
  | 53 => 169
  | 57 => 173
  | 63 => 176
  | 64 => 177
  | n => n
 g := fun n => n
theorem sortILays : SlLaysM.n5 Tryz.prog sortIRen where
 mixed := by kernel_rfl
 f5 :=⟨ "slices.Sort[[]int,int]", by decide, by kernel_rfl⟩
 f7 :=⟨ "slices.pdqsortOrdered[int]", by decide, by kernel_rfl⟩
 f8 := by kernel_rfl
 f10 :=⟨ "slices.insertionSortOrdered[int]", by decide, by kernel_rfl⟩
 f11 :=⟨ "slices.heapSortOrdered[int]", by decide, by kernel_rfl⟩
 f12 :=⟨ "slices.breakPatternsOrdered[int]", by decide, by kernel_rfl⟩
 f13 :=⟨ "slices.choosePivotOrdered[int]", by decide, by kernel_rfl⟩
 f14 :=⟨ "slices.reverseRangeOrdered[int]", by decide, by kernel_rfl⟩
 f15 :=⟨ "slices.partialInsertionSortOrdered[int]", by decide, by kernel_rfl⟩
 f16 :=⟨ "cmp.Less[int]", by decide, by kernel_rfl⟩
 f17 :=⟨ "slices.partitionEqualOrdered[int]", by decide, by kernel_rfl⟩
 f18 :=⟨ "slices.partitionOrdered[int]", by decide, by kernel_rfl⟩
 f19 := by kernel_rfl
 f20 := by kernel_rfl
 f30 :=⟨ "slices.siftDownOrdered[int]", by decide, by kernel_rfl⟩
 f31 := by kernel_rfl
 f32 := by kernel_rfl
 f33 :=⟨ "slices.medianAdjacentOrdered[int]", by decide, by kernel_rfl⟩
 f34 :=⟨ "slices.medianOrdered[int]", by decide, by kernel_rfl⟩
 f35 :=⟨ "cmp.isNaN[int]", by decide, by kernel_rfl⟩
 f40 :=⟨ "slices.order2Ordered[int]", by decide, by kernel_rfl⟩
 t0 := by kernel_rfl
 a0 := fun _ => by kernel_rfl
 z0 := fun _ => by kernel_rfl
 v0 := fun _ => by kernel_rfl
 t3 := by kernel_rfl
 a3 := fun _ => by kernel_rfl
 z3 := fun _ => by kernel_rfl
 v3 := fun _ => by kernel_rfl
 t4 := by kernel_rfl
 a4 := fun _ => by kernel_rfl
 z4 := fun _ => by kernel_rfl
 v4 := fun _ => by kernel_rfl
 t5 := by kernel_rfl
 a5 := fun _ => by kernel_rfl
 z5 := fun _ => by kernel_rfl
 v5 := fun _ => by kernel_rfl
 t9 := by kernel_rfl
 a9 := fun _ => by kernel_rfl
 z9 := fun _ => by kernel_rfl
 v9 := fun _ => by kernel_rfl
 t22 := by kernel_rfl
 a22 := fun _ => by kernel_rfl
 z22 := fun _ => by kernel_rfl
 v22 := fun _ => by kernel_rfl
 t23 := by kernel_rfl
 a23 := fun _ => by kernel_rfl
 z23 := fun _ => by kernel_rfl
 v23 := fun _ => by kernel_rfl
 t25 := by kernel_rfl
 a25 := fun _ => by kernel_rfl
 z25 := fun _ => by kernel_rfl
 v25 := fun _ => by kernel_rfl
 t32 := by kernel_rfl
 a32 := fun _ => by kernel_rfl
 z32 := fun _ => by kernel_rfl
 v32 := fun _ => by kernel_rfl
 t35 := by kernel_rfl
 a35 := fun _ => by kernel_rfl
 z35 := fun _ => by kernel_rfl
 v35 := fun _ => by kernel_rfl
 t36 := by kernel_rfl
 a36 := fun _ => by kernel_rfl
 z36 := fun _ => by kernel_rfl
 v36 := fun _ => by kernel_rfl
 t41 := by kernel_rfl
 a41 := fun _ => by kernel_rfl
 z41 := fun _ => by kernel_rfl
 v41 := fun _ => by kernel_rfl
 t44 := by kernel_rfl
 a44 := fun _ => by kernel_rfl
 z44 := fun _ => by kernel_rfl
 v44 := fun _ => by kernel_rfl
 t46 := by kernel_rfl
 a46 := fun _ => by kernel_rfl
 z46 := fun _ => by kernel_rfl
 v46 := fun _ => by kernel_rfl
 t53 := by kernel_rfl
 a53 := fun _ => by kernel_rfl
 z53 := fun _ => by kernel_rfl
 v53 := fun _ => by kernel_rfl
 t57 := by kernel_rfl
 a57 := fun _ => by kernel_rfl
 z57 := fun _ => by kernel_rfl
 v57 := fun _ => by kernel_rfl
 t63 := by kernel_rfl
 a63 := fun _ => by kernel_rfl
 z63 := fun _ => by kernel_rfl
 v63 := fun _ => by kernel_rfl
 t64 := by kernel_rfl
 a64 := fun _ => by kernel_rfl
 z64 := fun _ => by kernel_rfl
 v64 := fun _ => by kernel_rfl
def cloneIRen : Ren where
 f := fun x => match x with
  | 5 => 41
  | 7 => 72
  | n => n
 t := fun x => match x with
  | 3 => 93
  | 4 => 4
  | 20 => 20
  | 23 => 62
  | 25 => 3
  | n => n
 g := fun n => n
theorem cloneILays : SlLaysW.n5 Tryz.prog cloneIRen where
 mixed := by kernel_rfl
 f5 :=⟨ "maps.Clone[map[int]blazon/api.Sheet,int,blazon/api.Sheet]", by decide, by kernel_rfl⟩
 f7 := by kernel_rfl
 t4 := by kernel_rfl
 a4 := fun _ => by kernel_rfl
 z4 := fun _ => by kernel_rfl
 v4 := fun _ => by kernel_rfl
 t20 := by kernel_rfl
 a20 := fun _ => by kernel_rfl
 z20 := fun _ => by kernel_rfl
 v20 := fun _ => by kernel_rfl
 t23 := by kernel_rfl
 a23 := fun _ => by kernel_rfl
 z23 := fun _ => by kernel_rfl
 v23 := fun _ => by kernel_rfl
def clonePRen : Ren where
 f := fun x => match x with
  | 5 => 42
  | 7 => 72
  | n => n
 t := fun x => match x with
  | 3 => 96
  | 4 => 4
  | 20 => 20
  | 23 => 63
  | 25 => 3
  | n => n
 g := fun n => n
theorem clonePLays : SlLaysW.n5 Tryz.prog clonePRen where
 mixed := by kernel_rfl
 f5 :=⟨ "maps.Clone[map[int]blazon/api.Piece,int,blazon/api.Piece]", by decide, by kernel_rfl⟩
 f7 := by kernel_rfl
 t4 := by kernel_rfl
 a4 := fun _ => by kernel_rfl
 z4 := fun _ => by kernel_rfl
 v4 := fun _ => by kernel_rfl
 t20 := by kernel_rfl
 a20 := fun _ => by kernel_rfl
 z20 := fun _ => by kernel_rfl
 v20 := fun _ => by kernel_rfl
 t23 := by kernel_rfl
 a23 := fun _ => by kernel_rfl
 z23 := fun _ => by kernel_rfl
 v23 := fun _ => by kernel_rfl
def cloneQRen : Ren where
 f := fun x => match x with
  | 5 => 43
  | 7 => 72
  | n => n
 t := fun x => match x with
  | 3 => 3
  | 4 => 4
  | 20 => 20
  | 23 => 64
  | 25 => 3
  | n => n
 g := fun n => n
theorem cloneQLays : SlLaysW.n5 Tryz.prog cloneQRen where
 mixed := by kernel_rfl
 f5 :=⟨ "maps.Clone[map[int]int,int,int]", by decide, by kernel_rfl⟩
 f7 := by kernel_rfl
 t4 := by kernel_rfl
 a4 := fun _ => by kernel_rfl
 z4 := fun _ => by kernel_rfl
 v4 := fun _ => by kernel_rfl
 t20 := by kernel_rfl
 a20 := fun _ => by kernel_rfl
 z20 := fun _ => by kernel_rfl
 v20 := fun _ => by kernel_rfl
 t23 := by kernel_rfl
 a23 := fun _ => by kernel_rfl
 z23 := fun _ => by kernel_rfl
 v23 := fun _ => by kernel_rfl
def cloneLRen : Ren where
 f := fun x => match x with
  | 5 => 44
  | 7 => 72
  | n => n
 t := fun x => match x with
  | 3 => 100
  | 4 => 4
  | 20 => 20
  | 23 => 65
  | 25 => 3
  | n => n
 g := fun n => n
theorem cloneLLays : SlLaysW.n5 Tryz.prog cloneLRen where
 mixed := by kernel_rfl
 f5 :=⟨ "maps.Clone[map[int]blazon/sheet.kindred,int,blazon/sheet.kindred]", by decide, by kernel_rfl⟩
 f7 := by kernel_rfl
 t4 := by kernel_rfl
 a4 := fun _ => by kernel_rfl
 z4 := fun _ => by kernel_rfl
 v4 := fun _ => by kernel_rfl
 t20 := by kernel_rfl
 a20 := fun _ => by kernel_rfl
 z20 := fun _ => by kernel_rfl
 v20 := fun _ => by kernel_rfl
 t23 := by kernel_rfl
 a23 := fun _ => by kernel_rfl
 z23 := fun _ => by kernel_rfl
 v23 := fun _ => by kernel_rfl
def compIRen : Ren where
 f := fun x => match x with
  | 20 => 65
  | n => n
 t := fun x => match x with
  | 0 => 0
  | 3 => 3
  | 4 => 4
  | 22 => 72
  | n => n
 g := fun n => n
theorem compILays : Lays2.n20 Tryz.prog compIRen where
 mixed := by kernel_rfl
 f20 := by kernel_rfl
 t0 := by kernel_rfl
 a0 := fun _ => by kernel_rfl
 z0 := fun _ => by kernel_rfl
 v0 := fun _ => by kernel_rfl
 t3 := by kernel_rfl
 a3 := fun _ => by kernel_rfl
 z3 := fun _ => by kernel_rfl
 v3 := fun _ => by kernel_rfl
 t4 := by kernel_rfl
 a4 := fun _ => by kernel_rfl
 z4 := fun _ => by kernel_rfl
 v4 := fun _ => by kernel_rfl
 t22 := by kernel_rfl
 a22 := fun _ => by kernel_rfl
 z22 := fun _ => by kernel_rfl
 v22 := fun _ => by kernel_rfl
 i3 := by kernel_rfl
end Go.Proofs.YtehlbomkldnalaaGreat
