/- slices.Sort of ints: the library's contract over this program. -/
import Derived.Test.YtkcfalehebacpaaQueue
import Derived.Test.YtkcfalehebacpaaRows
import Derived.Shelf.Sort.Plain
namespace Go.Proofs.Ytkcfalehebacpaa
open Go Go.Shelf Go.Sort Go.RowKit
def sortRen : Ren where
  f := fun x => match x with
    | 189 => 31
    | 125 => 69
    | 257 => 68
    | 128 => 97
    | 129 => 98
    | 294 => 88
    | 295 => 89
    | 296 => 90
    | 297 => 91
    | 298 => 92
    | 299 => 93
    | 216 => 94
    | 300 => 95
    | 301 => 96
    | 328 => 112
    | 329 => 113
    | 330 => 114
    | 331 => 115
    | 332 => 116
    | 215 => 117
    | 343 => 126
    | n => n
  t := fun x => match x with
    | 28 => 26
    | 3 => 3
    | 46 => 60
    | 0 => 0
    | 51 => 158
    | 53 => 160
    | 4 => 4
    | 183 => 151
    | 182 => 150
    | 131 => 89
    | 5 => 5
    | 9 => 9
    | 218 => 173
    | 222 => 177
    | 228 => 185
    | 229 => 186
    | n => n
  g := fun n => n
theorem sortLays : Lays.n189 Try.prog sortRen where
  mixed := by kernel_rfl
  f125 := by kernel_rfl
  f128 := by kernel_rfl
  f129 := by kernel_rfl
  f189 := by kernel_rfl
  f215 := by kernel_rfl
  f216 := by kernel_rfl
  f257 := by kernel_rfl
  f294 := by kernel_rfl
  f295 := by kernel_rfl
  f296 := by kernel_rfl
  f297 := by kernel_rfl
  f298 := by kernel_rfl
  f299 := by kernel_rfl
  f300 := by kernel_rfl
  f301 := by kernel_rfl
  f328 := by kernel_rfl
  f329 := by kernel_rfl
  f330 := by kernel_rfl
  f331 := by kernel_rfl
  f332 := by kernel_rfl
  f343 := by kernel_rfl
  t0 := by kernel_rfl
  a0 := fun _ => by kernel_rfl
  z0 := fun _ => by kernel_rfl
  v0 := fun _ => by kernel_rfl
  t3 := by kernel_rfl
  a3 := fun _ => by kernel_rfl
  z3 := fun _ => by kernel_rfl
  v3 := fun _ => by kernel_rfl
  t4 := by kernel_rfl
  a4 := fun _ => by kernel_rfl
  z4 := fun _ => by kernel_rfl
  v4 := fun _ => by kernel_rfl
  t5 := by kernel_rfl
  a5 := fun _ => by kernel_rfl
  z5 := fun _ => by kernel_rfl
  v5 := fun _ => by kernel_rfl
  t9 := by kernel_rfl
  a9 := fun _ => by kernel_rfl
  z9 := fun _ => by kernel_rfl
  v9 := fun _ => by kernel_rfl
  t28 := by kernel_rfl
  a28 := fun _ => by kernel_rfl
  z28 := fun _ => by kernel_rfl
  v28 := fun _ => by kernel_rfl
  t46 := by kernel_rfl
  a46 := fun _ => by kernel_rfl
  z46 := fun _ => by kernel_rfl
  v46 := fun _ => by kernel_rfl
  t51 := by kernel_rfl
  a51 := fun _ => by kernel_rfl
  z51 := fun _ => by kernel_rfl
  v51 := fun _ => by kernel_rfl
  t53 := by kernel_rfl
  a53 := fun _ => by kernel_rfl
  z53 := fun _ => by kernel_rfl
  v53 := fun _ => by kernel_rfl
  t131 := by kernel_rfl
  a131 := fun _ => by kernel_rfl
  z131 := fun _ => by kernel_rfl
  v131 := fun _ => by kernel_rfl
  t182 := by kernel_rfl
  a182 := fun _ => by kernel_rfl
  z182 := fun _ => by kernel_rfl
  v182 := fun _ => by kernel_rfl
  t183 := by kernel_rfl
  a183 := fun _ => by kernel_rfl
  z183 := fun _ => by kernel_rfl
  v183 := fun _ => by kernel_rfl
  t218 := by kernel_rfl
  a218 := fun _ => by kernel_rfl
  z218 := fun _ => by kernel_rfl
  v218 := fun _ => by kernel_rfl
  t222 := by kernel_rfl
  a222 := fun _ => by kernel_rfl
  z222 := fun _ => by kernel_rfl
  v222 := fun _ => by kernel_rfl
  t228 := by kernel_rfl
  a228 := fun _ => by kernel_rfl
  z228 := fun _ => by kernel_rfl
  v228 := fun _ => by kernel_rfl
  t229 := by kernel_rfl
  a229 := fun _ => by kernel_rfl
  z229 := fun _ => by kernel_rfl
  v229 := fun _ => by kernel_rfl
/-- the numbers in order -/
theorem sortInt_any (blk off cap : Nat) (zs : List Int) (w : World) (hH : Holds (Value.int .i64) w blk off zs.toArray) (hblk : blk < w.heap.size) (hsz : zs.length < 4611686018427387904) :
    Calls Try.prog 31 #[.slice (some ⟨blk, off, none⟩) zs.length cap] w fun e w' =>
      e = .returned (.tuple #[]) ∧ ∃ n os, w' = grow (putRow (Value.int .i64) (Sort.ahead w n) blk off (zs.mergeSort fun x y => decide (x ≤ y)).toArray) os :=
  Any.slices_Sort_int sortLays blk off cap zs w hH hblk hsz
end Go.Proofs.Ytkcfalehebacpaa
