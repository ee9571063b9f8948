/- What a nil and a zero store return: every call says that there is no store, shows nothing and changes nothing. No condition beyond the row's own. -/
import Derived.Test.YtnejacogflkmmaaRows
import Derived.Test.YtnejacogflkmmaaOpenNil
import Derived.Test.YtnejacogflkmmaaNilsLaw
import Derived.Test.YtnejacogflkmmaaOpen
import Derived.Carry
namespace Go.Proofs.Ytnejacogflkmmaa
open Go.ChangeShapes Go.WideShapes Go.ChangeAt Go.RowKit
open Go.ChangeMaps (open_string shut_string)

set_option maxRecDepth 100000 in
theorem sheetNils_lifted (os : Os) (started : os.Started) (H : Type) (enc : TypeId × Value → H) :
    ReturnsInHanded {} Try.checked os 11 .any (Rows.sheetNilsSpec.pre6 enc Try.prog Try.f11 Rows.sheetNilsRow.domain false) (Rows.sheetNilsSpec.post enc Try.prog Try.f11 false true false false) := by
  refine returnsInHanded_of_change (C := Try.checked) own_ started (by kernel_rfl) Try.func11
    (ChangeSpec.witness6 (enc := enc) (C := Try.checked) false ⟨#[], #[.agg #[.int .i64 0, .int .i64 0, .int .i64 0, .int .i64 0, .int .i64 0, .int .i64 0, .int .i64 0, .slice none 0 0, .int .i64 0, .int .i64 0, .int .i64 0, .int .i64 0, .int .i64 0, .int .i64 0, .int .i64 0, .int .i64 0]], []⟩ 8 (by kernel_rfl) (by kernel_rfl) (by kernel_rfl) (by kernel_rfl)) ?_
  intro W base args ds gs before hval0 hW hcnd _
  have hval : ∀ (j : Nat) t v, Try.f11.params[j]? = some t → args[j]? = some v → Value.okWide Try.prog W .any base t v := hval0
  have hW' := hW
  obtain ⟨p, q, hA0, hV, rfl, hfz, hnd⟩ := hW
  have hA : DataW.TrodAll enc Try.prog W 0 (fun _ => true) true Try.f11.params.toList args.toList ds p := hA0
  rw [Try.params11] at hA hval
  obtain ⟨v0, vs0, d0, ds0, p0, q0, hargs, rfl, rfl, h0, r0⟩ := trodAll_cons hA
  obtain ⟨rfl, rfl, rfl⟩ := trodAll_nil r0
  obtain rfl : args = #[v0] := by cases args; simp_all
  obtain ⟨rfl, rfl⟩ := trodVars_none hV
  have k0 := h0
  have lt0 : ∀ x ∈ p0, x.block < W.heap.size := by obtain ⟨m, hm⟩ := k0; exact DataW.trod_lt m _ _ _ hm
  obtain ⟨l0, rfl, id0, gr0, co0, lo0, ma0, wi0, le0, A0, n0, c0, g0, q0, x0, y0, cnt0, day0, nid0, what0, rfl⟩ := arg_struct Try.underlying73 o_nil (hval 0 _ v0 rfl rfl) h0
  clear hA0 hval0
  refine (sheetNils_walk id0 gr0 co0 lo0 ma0 wi0 le0 A0 n0 c0 g0 q0 x0 y0 cnt0 day0 nid0 what0 W).mono fun e W' ⟨he, bel⟩ => ?_
  subst he
  exact ⟨_, rfl, _, _, _, [], _, [], hW', trodAll_mk1 (shut_bool Try.underlying4 _), (trodAll_cons_mk (Below.trod laidOut_ (by kernel_rfl) (of_decide_eq_true (by kernel_rfl)) k0 bel lt0) trodAll_mk0), rfl, bel.frame _, fun h => by cases h⟩

theorem sheetNils_over : Rows.sheetNilsRow.holds Try.pinned (OpenSpec.ofChange Rows.sheetNilsSpec) :=
  OpenClaim.holds_of_wide 11 Try.f11 rfl rfl rfl rfl rfl rfl rfl ⟨rfl, rfl, rfl, rfl, rfl⟩ rfl rfl rfl rfl rfl (by kernel_rfl) Try.func11 (by kernel_rfl)
    (of_decide_eq_true (by kernel_rfl)) (by unfold Func.isWrapper; rw [if_neg (of_decide_eq_false (by kernel_rfl))]; exact ⟨rfl, rfl⟩)
    (fun os started H enc _ => sheetNils_lifted os started H enc)

/-- THE STATEMENT -/
theorem sheetNils_holds : Rows.SheetNilsSaid := sheetNils_over
end Go.Proofs.Ytnejacogflkmmaa
