/- Parts of the proofs of this seat: PlayP. Each part says what it proves; no condition beyond those stated there. -/
import Derived.Test.YtehlbomkldnalaaGreatQ12
import Derived.Test.YtehlbomkldnalaaGreatQ29
import Derived.Test.YtehlbomkldnalaaGreatQ31

/- SheetPlays and SheetCopies: a new store. -/
namespace Go.Proofs.YtehlbomkldnalaaGreat
open Go Go.RowKit
theorem sta_new {w : World} {B0 g ri rp rq rl : Nat} {r : Shelf} (h : StoreAt w B0 g ri rp rq rl ⟨r, [], [], [], [], 0, 0, 0⟩) : StA w ⟨g, ri, rp, rq, rl⟩ ⟨r, [], [], [], [], 0, 0, 0⟩ := by
 obtain ⟨MI, h1, h2, h3⟩ := h.items
 have h4 : MI = [] := List.length_eq_zero_iff.1 h2
 subst h4
 exact ⟨h.blk, ⟨[], h1, rfl, fun i p q hp => by simp at hp⟩, h.pieces, h.parent, h.lots, h.ne⟩
theorem rvr_is2 (mw ml l0 l1 l2 : Int) (w : World) {b : Bool} (h : validRules ⟨mw, ml, l0, l1, l2⟩ = b) :
  Calls Tryz.prog 8 #[.agg #[mw, ml, l0, l1, l2]] w fun e w' => e = .returned (.bool b) ∧ Below w.heap.size w w' := by
 subst h; exact refValidRules_any mw ml l0 l1 l2 w
set_option maxHeartbeats 1000000 in
theorem new_no (mw ml l0 l1 l2 : Int) (w : World) (hv : validRules ⟨mw, ml, l0, l1, l2⟩ = false) :
  Calls Tryz.prog 7 #[.agg #[mw, ml, l0, l1, l2]] w fun e w' => e = .returned (.tuple #[.pointer none, .int .i64 21]) ∧ Below w.heap.size w w' := by
 go_enter Tryz.func7, Tryz.ntmps7
 go_wp2_with fail
 refine (validRules_any _ _ _ _ _ _).mono ?_
 rintro e w1 ⟨rfl, hb⟩
 go_wp2
 go_ret2
 exact ⟨rfl, ((Below.refl _ _).alloc (Nat.le_refl _) _).trans (hb.mono (by simp))⟩
def rv0 (mw ml l0 l1 l2 : Int) : RV := ⟨mw, ml, l0, l1, l2, none, 0, 0, none, 0, 0, none, 0, 0, none, 0, 0⟩
theorem build_rv0 (mw ml l0 l1 l2 : Int) (w : World) : (Instr.build 38 #[(0, .agg #[mw, ml, l0, l1, l2])]).run Tryz.prog w = .ok (.agg #[mw, ml, l0, l1, l2, .slice none 0 0, .slice none 0 0, .slice none 0 0, .slice none 0 0]) w := run_build w _ _ _ (by kernel_rfl)
theorem rat0 (mw ml l0 l1 l2 : Int) (P : Nat → Prop) (w : World) : RAt w P (rv0 mw ml l0 l1 l2) ⟨⟨mw, ml, l0, l1, l2⟩, [], [], [], []⟩ :=
 ⟨rfl, rfl, rfl, rfl, rfl, Slc.nil_, ⟨[], Slc.nil_, ⟨rfl, fun i x h hx => by simp at hx⟩⟩, Slc.nil_, Slc.nil_, fun h => absurd rfl h, fun h => absurd rfl h, fun h => absurd rfl h, fun h => absurd rfl h⟩
end Go.Proofs.YtehlbomkldnalaaGreat
