/- A copy of a store behaves like its store and is independent of it, whatever is done with both, for at most 12 calls before and 12 calls of each. No condition beyond the row's own. -/
import Derived.Test.YtehlbomkldnalaaGreatRows
import Derived.Carry
import Derived.Test.YtehlbomkldnalaaGreatQ2
import Derived.Test.YtehlbomkldnalaaGreatQ36

namespace Go.Proofs.YtehlbomkldnalaaGreat
open Go.ChangeShapes Go.WideShapes Go.ChangeAt Go.RowKit
open Go.ChangeMaps (open_string shut_string)

set_option maxRecDepth 100000 in
theorem sheetCopies_lifted (os : Os) (started : os.Started) (H : Type) (enc : TypeId × Value → H) :
  ReturnsInHanded {} Tryz.checked os 4 .any (Rows.sheetCopiesSpec.pre6 enc Tryz.prog Tryz.f4 Rows.sheetCopiesRow.domain false) (Rows.sheetCopiesSpec.post enc Tryz.prog Tryz.f4 false true false false) := by
 refine returnsInHanded_of_change (C := Tryz.checked) own_ started (by kernel_rfl) Tryz.func4
  (ChangeSpec.witness6 (enc := enc) (C := Tryz.checked) false ⟨#[], #[.agg #[.int .i64 0, .int .i64 0, .int .i64 0, .int .i64 0, .int .i64 0, .slice none 0 0, .slice none 0 0, .slice none 0 0]], []⟩ 8 (by kernel_rfl) (by kernel_rfl) (by kernel_rfl) (by kernel_rfl)) ?_
 intro W base args ds gs before hval0 hW hcnd _
 have hval : ∀ (j : Nat) t v, Tryz.f4.params[j]? = some t → args[j]? = some v → Value.okWide Tryz.prog W .any base t v := hval0
 have hW' := hW
 obtain ⟨p, q, hA0, hV, rfl, hfz, hnd⟩ := hW
 have hA : DataW.TrodAll enc Tryz.prog W 0 (fun _ => true) true Tryz.f4.params.toList args.toList ds p := hA0
 rw [Tryz.params4] at hA hval
 obtain ⟨v0, vs0, d0, ds0, p0, q0, hargs, rfl, rfl, h0, r0⟩ := trodAll_cons hA
 obtain ⟨rfl, rfl, rfl⟩ := trodAll_nil r0
 obtain rfl : args = #[v0] := by cases args; simp_all
 obtain ⟨rfl, rfl⟩ := trodVars_none hV
 have k0 := h0
 have lt0 : ∀ x ∈ p0, x.block < W.heap.size := by obtain ⟨m, hm⟩ := k0; exact DataW.trod_lt m _ _ _ hm
 obtain ⟨l0, rfl, mw0, ml0, la0, lb0, lc0, A10, A20, A30, c10, c20, c30, x10, x20, x30, rfl, ⟨m10, S10, Q10⟩, ⟨m20, S20, Q20⟩, ⟨m30, S30, Q30⟩⟩ := arg_struct Tryz.underlying51 o_scr (hval 0 _ v0 rfl rfl) h0
 clear hA0 hval0
 refine (copies_walk mw0 ml0 la0 lb0 lc0 A10 A20 A30 c10 c20 c30 x10 x20 x30 W S10 S20 S30 m10 m20 m30 Q10 Q20 Q30).mono fun e W' ⟨he, bel⟩ => ?_
 subst he
 exact ⟨_, rfl, _, _, _, [], _, [], hW', trodAll_mk1 (shut_bool Tryz.underlying4 _), (trodAll_cons_mk (Below.trod laidOut_ (by kernel_rfl) (of_decide_eq_true (by kernel_rfl)) k0 bel lt0) trodAll_mk0), rfl, bel.frame _, fun h => by cases h⟩

theorem sheetCopies_over : Rows.sheetCopiesRow.holds Tryz.pinned (OpenSpec.ofChange Rows.sheetCopiesSpec) :=
 OpenClaim.holds_of_wide 4 Tryz.f4 rfl rfl rfl rfl rfl rfl rfl ⟨rfl, rfl, rfl, rfl, rfl⟩ rfl rfl rfl rfl rfl (by kernel_rfl) Tryz.func4 (by kernel_rfl)
  (of_decide_eq_true (by kernel_rfl)) (by unfold Func.isWrapper; rw [if_neg (of_decide_eq_false (by kernel_rfl))]; exact ⟨rfl, rfl⟩)
  (fun os started H enc _ => sheetCopies_lifted os started H enc)

/-- THE STATEMENT -/
theorem sheetCopies_holds : Rows.SheetCopiesSaid := sheetCopies_over
end Go.Proofs.YtehlbomkldnalaaGreat
