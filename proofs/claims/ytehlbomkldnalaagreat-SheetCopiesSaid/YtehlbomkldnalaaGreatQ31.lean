/- Parts of the proofs of this seat: New. Each part says what it proves; no condition beyond those stated there. -/
import Derived.Maps.RangeWalk
import Derived.Test.YtehlbomkldnalaaGreatQ4
import Derived.Test.YtehlbomkldnalaaGreatQ12

/- New of package sheet. -/
namespace Go.Proofs.YtehlbomkldnalaaGreat
open Go.RowKit

def NewPost (sh : Shelf) (w : World) (e : Ending) (w' : World) : Prop :=
 ∃ g ri rp rq rl, e = .returned (.tuple #[.pointer (some ⟨g, 0, none⟩), .int .i64 0]) ∧ (∀ B0, B0 ≤ w.heap.size → StoreAt w' B0 g ri rp rq rl ⟨sh, [], [], [], [], 0, 0, 0⟩) ∧
  w.heap.size ≤ g ∧ w.heap.size ≤ ri ∧ w.heap.size ≤ rp ∧ w.heap.size ≤ rq ∧ w.heap.size ≤ rl ∧ Below w.heap.size w w'

theorem new_store (w1 : World) (sh : Shelf) (B0 : Nat) (hB : B0 ≤ w1.heap.size) :
  StoreAt (((((w1.alloc (.map #[] 0)).alloc (.map #[] 0)).alloc (.map #[] 0)).alloc (.map #[] 0)).alloc (.cells (storeCells_ ⟨sh, [], [], [], [], 0, 0, 0⟩ w1.heap.size (w1.heap.size + 1) (w1.heap.size + 1 + 1) (w1.heap.size + 1 + 1 + 1)) 67)) B0
   (w1.heap.size + 1 + 1 + 1 + 1) w1.heap.size (w1.heap.size + 1) (w1.heap.size + 1 + 1) (w1.heap.size + 1 + 1 + 1) ⟨sh, [], [], [], [], 0, 0, 0⟩ := by
 have m0 := ((((MapOf.new w1).alloc (.map #[] 0)).alloc (.map #[] 0)).alloc (.map #[] 0)).alloc (.cells (storeCells_ ⟨sh, [], [], [], [], 0, 0, 0⟩ w1.heap.size (w1.heap.size + 1) (w1.heap.size + 1 + 1) (w1.heap.size + 1 + 1 + 1)) 67)
 have m1 := (((MapOf.new (w1.alloc (.map #[] 0))).alloc (.map #[] 0)).alloc (.map #[] 0)).alloc (.cells (storeCells_ ⟨sh, [], [], [], [], 0, 0, 0⟩ w1.heap.size (w1.heap.size + 1) (w1.heap.size + 1 + 1) (w1.heap.size + 1 + 1 + 1)) 67)
 have m2 := ((MapOf.new ((w1.alloc (.map #[] 0)).alloc (.map #[] 0))).alloc (.map #[] 0)).alloc (.cells (storeCells_ ⟨sh, [], [], [], [], 0, 0, 0⟩ w1.heap.size (w1.heap.size + 1) (w1.heap.size + 1 + 1) (w1.heap.size + 1 + 1 + 1)) 67)
 have m3 := (MapOf.new (((w1.alloc (.map #[] 0)).alloc (.map #[] 0)).alloc (.map #[] 0))).alloc (.cells (storeCells_ ⟨sh, [], [], [], [], 0, 0, 0⟩ w1.heap.size (w1.heap.size + 1) (w1.heap.size + 1 + 1) (w1.heap.size + 1 + 1 + 1)) 67)
 have b := Blk.new ((((w1.alloc (.map #[] 0)).alloc (.map #[] 0)).alloc (.map #[] 0)).alloc (.map #[] 0)) 67 (storeCells_ ⟨sh, [], [], [], [], 0, 0, 0⟩ w1.heap.size (w1.heap.size + 1) (w1.heap.size + 1 + 1) (w1.heap.size + 1 + 1 + 1))
 simp only [World.size_alloc] at m0 m1 m2 m3 b
 exact ⟨b, by omega, ⟨[], m0, rfl, fun i p q h => by simp at h⟩, m1, m2, m3, by omega, by omega, by omega, by omega, by omega, by omega⟩

set_option maxHeartbeats 1000000 in
theorem new_yes (mw ml l0 l1 l2 : Int) (w : World) (hv : validRules ⟨mw, ml, l0, l1, l2⟩ = true) :
  Calls Tryz.prog 7 #[.agg #[mw, ml, l0, l1, l2]] w (NewPost ⟨mw, ml, l0, l1, l2⟩ w) := by
 have hmm := @run_makeMap Tryz.prog
 go_enter Tryz.func7, Tryz.ntmps7
 go_wp2_with fail
 refine (validRules_any _ _ _ _ _ _).mono ?_
 rintro e w1 ⟨rfl, hb⟩
 have hk := (Blk.new w 24 #[mw, ml, l0, l1, l2]).below hb (by simp)
 obtain ⟨k0, k1, k2, k3, k4⟩ := hk.all5
 have hz := hk.lt
 go_wp2
 go_ret2
 have hbw : Below w.heap.size w w1 := ((Below.refl _ _).alloc (Nat.le_refl _) _).trans (hb.mono (by simp))
 have hs := hbw.size
 refine ⟨_, _, _, _, _, rfl, fun B0 hB => new_store w1 ⟨mw, ml, l0, l1, l2⟩ B0 (by omega), by omega, by omega, by omega, by omega, by omega, ?_⟩
 exact ((((hbw.alloc hs _).alloc (by simp; omega) _).alloc (by simp; omega) _).alloc (by simp; omega) _).alloc (by simp; omega) _
end Go.Proofs.YtehlbomkldnalaaGreat
