/- Which rolls and rules are valid is what the document says, for any roll and rules; with more than 40 faults the law asks nothing of them. No condition beyond the row's own. -/
import Derived.Test.YtcffjleecklhcaaRows
import Derived.Test.YtcffjleecklhcaaOpenSheet
import Derived.Test.YtcffjleecklhcaaLaws1
import Derived.Test.YtcffjleecklhcaaOpen
import Derived.Carry
namespace Go.Proofs.Ytcffjleecklhcaa
open Go.ChangeShapes Go.WideShapes Go.ChangeAt Go.RowKit
open Go.ChangeMaps (open_string shut_string)

set_option maxRecDepth 100000 in
theorem sheetRolls_lifted (os : Os) (started : os.Started) (H : Type) (enc : TypeId × Value → H) :
    ReturnsInHanded {} Try.checked os 3 .any (Rows.sheetRollsSpec.pre6 enc Try.prog Try.f3 Rows.sheetRollsRow.domain false) (Rows.sheetRollsSpec.post enc Try.prog Try.f3 false true false false) := by
  refine returnsInHanded_of_change (C := Try.checked) own_ started (by kernel_rfl) Try.func3
    (ChangeSpec.witness6 (enc := enc) (C := Try.checked) false ⟨#[], #[.agg #[.int .i64 0, .int .i64 0, .int .i64 0, .int .i64 0, .int .i64 0, .int .i64 0, .int .i64 0, .slice none 0 0], .agg #[.int .i64 0, .int .i64 0, .int .i64 0, .int .i64 0, .int .i64 0]], []⟩ 8 (by kernel_rfl) (by kernel_rfl) (by kernel_rfl) (by kernel_rfl)) ?_
  intro W base args ds gs before hval0 hW hcnd _
  have hval : ∀ (j : Nat) t v, Try.f3.params[j]? = some t → args[j]? = some v → Value.okWide Try.prog W .any base t v := hval0
  have hW' := hW
  obtain ⟨p, q, hA0, hV, rfl, hfz, hnd⟩ := hW
  have hA : DataW.TrodAll enc Try.prog W 0 (fun _ => true) true Try.f3.params.toList args.toList ds p := hA0
  rw [Try.params3] at hA hval
  obtain ⟨v0, vs0, d0, ds0, p0, q0, hargs, rfl, rfl, h0, r0⟩ := trodAll_cons hA
  obtain ⟨v1, vs1, d1, ds1, p1, q1, rfl, rfl, rfl, h1, r1⟩ := trodAll_cons r0
  obtain ⟨rfl, rfl, rfl⟩ := trodAll_nil r1
  obtain rfl : args = #[v0, v1] := by cases args; simp_all
  obtain ⟨rfl, rfl⟩ := trodVars_none hV
  have k0 := h0
  have lt0 : ∀ x ∈ p0, x.block < W.heap.size := by obtain ⟨m, hm⟩ := k0; exact DataW.trod_lt m _ _ _ hm
  have k1 := h1
  have lt1 : ∀ x ∈ p1, x.block < W.heap.size := by obtain ⟨m, hm⟩ := k1; exact DataW.trod_lt m _ _ _ hm
  obtain ⟨l0, rfl, id0, grade0, colour0, lot0, made0, width0, len0, A0, c0, fs0, rfl, hI0, hm0, hS0, hQ0⟩ := arg_struct Try.underlying24 o_roll (hval 0 _ v0 rfl rfl) h0
  unfold maxLen at hm0
  obtain ⟨l1, rfl, mw1, ml1, la1, lb1, lc1, rfl, hI1⟩ := arg_struct Try.underlying27 o_shelf (hval 1 _ v1 rfl rfl) h1
  clear hA0 hval0
  refine (rolls_walk id0 grade0 colour0 lot0 made0 width0 len0 A0 c0 fs0 mw1 ml1 la1 lb1 lc1 W hm0 hS0).mono fun e W' ⟨he, bel⟩ => ?_
  subst he
  exact ⟨_, rfl, _, _, _, [], _, [], hW', trodAll_mk1 (shut_bool Try.underlying4 _), (trodAll_cons_mk (Below.trod laidOut_ (by kernel_rfl) (of_decide_eq_true (by kernel_rfl)) k0 bel lt0) (trodAll_cons_mk (Below.trod laidOut_ (by kernel_rfl) (of_decide_eq_true (by kernel_rfl)) k1 bel lt1) trodAll_mk0)), rfl, bel.frame _, fun h => by cases h⟩

theorem sheetRolls_over : Rows.sheetRollsRow.holds Try.pinned (OpenSpec.ofChange Rows.sheetRollsSpec) :=
  OpenClaim.holds_of_wide 3 Try.f3 rfl rfl rfl rfl rfl rfl rfl ⟨rfl, rfl, rfl, rfl, rfl⟩ rfl rfl rfl rfl rfl (by kernel_rfl) Try.func3 (by kernel_rfl)
    (of_decide_eq_true (by kernel_rfl)) (by unfold Func.isWrapper; rw [if_neg (of_decide_eq_false (by kernel_rfl))]; exact ⟨rfl, rfl⟩)
    (fun os started H enc _ => sheetRolls_lifted os started H enc)

/-- THE STATEMENT -/
theorem sheetRolls_holds : Rows.SheetRollsSaid := sheetRolls_over
end Go.Proofs.Ytcffjleecklhcaa
