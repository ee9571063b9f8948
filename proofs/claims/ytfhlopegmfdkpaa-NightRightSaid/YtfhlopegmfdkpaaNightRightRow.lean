/- Which plans are right, how many jobs they do, what is late, and the tour of a night: the program's answers are the document's; in a season that is too wide, or for lists that are too long, the law asks for its sanity check alone. No condition beyond the row's own. -/
import Derived.Test.YtfhlopegmfdkpaaRows
import Derived.Test.YtfhlopegmfdkpaaNOpen
import Derived.Test.YtfhlopegmfdkpaaNLaw6
import Derived.Test.YtfhlopegmfdkpaaNOpenM
import Derived.Test.YtfhlopegmfdkpaaOpen
import Derived.Carry
namespace Go.Proofs.Ytfhlopegmfdkpaa
open Go.ChangeShapes Go.WideShapes Go.ChangeAt Go.RowKit
open Go.ChangeMaps (open_string shut_string)

set_option maxRecDepth 100000 in
theorem nightRight_lifted (os : Os) (started : os.Started) (H : Type) (enc : TypeId × Value → H) :
    ReturnsInHanded {} Try.checked os 12 .any (Rows.nightRightSpec.pre6 enc Try.prog Try.f12 Rows.nightRightRow.domain false) (Rows.nightRightSpec.post enc Try.prog Try.f12 false true false false) := by
  refine returnsInHanded_of_change (C := Try.checked) own_ started (by kernel_rfl) Try.func12
    (ChangeSpec.witness6 (enc := enc) (C := Try.checked) false ⟨#[], #[.agg #[.slice none 0 0, .slice none 0 0], .agg #[.slice none 0 0, .int .i64 0, .slice none 0 0]], []⟩ 8 (by kernel_rfl) (by kernel_rfl) (by kernel_rfl) (by kernel_rfl)) ?_
  intro W base args ds gs before hval0 hW hcnd _
  have hval : ∀ (j : Nat) t v, Try.f12.params[j]? = some t → args[j]? = some v → Value.okWide Try.prog W .any base t v := hval0
  have hW' := hW
  obtain ⟨p, q, hA0, hV, rfl, hfz, hnd⟩ := hW
  have hA : DataW.TrodAll enc Try.prog W 0 (fun _ => true) true Try.f12.params.toList args.toList ds p := hA0
  rw [Try.params12] at hA hval
  obtain ⟨v0, vs0, d0, ds0, p0, q0, hargs, rfl, rfl, h0, r0⟩ := trodAll_cons hA
  obtain ⟨v1, vs1, d1, ds1, p1, q1, rfl, rfl, rfl, h1, r1⟩ := trodAll_cons r0
  obtain ⟨rfl, rfl, rfl⟩ := trodAll_nil r1
  obtain rfl : args = #[v0, v1] := by cases args; simp_all
  obtain ⟨rfl, rfl⟩ := trodVars_none hV
  have k0 := h0
  have lt0 : ∀ x ∈ p0, x.block < W.heap.size := by obtain ⟨m, hm⟩ := k0; exact DataW.trod_lt m _ _ _ hm
  have k1 := h1
  have lt1 : ∀ x ∈ p1, x.block < W.heap.size := by obtain ⟨m, hm⟩ := k1; exact DataW.trod_lt m _ _ _ hm
  obtain ⟨l0, rfl, s0, rfl, hS0⟩ := arg_struct Try.underlying25 o_sea (hval 0 _ v0 rfl rfl) h0
  obtain ⟨z1, rfl, A1, c1, l1, u1, B1, f1, m1, rfl, ⟨la1, S1⟩, lb1, Z1⟩ := arg_struct Try.underlying72 o_asked (hval 1 _ v1 rfl rfl) h1
  clear hA0 hval0
  refine (right_walk s0 A1 c1 l1 u1 B1 f1 m1 W hS0 S1 Z1 la1 lb1).mono fun e W' ⟨he, bel⟩ => ?_
  subst he
  exact ⟨_, rfl, _, _, _, [], _, [], hW', trodAll_mk1 (shut_bool Try.underlying4 _), (trodAll_cons_mk (Below.trod laidOut_ (by kernel_rfl) (of_decide_eq_true (by kernel_rfl)) k0 bel lt0) (trodAll_cons_mk (Below.trod laidOut_ (by kernel_rfl) (of_decide_eq_true (by kernel_rfl)) k1 bel lt1) trodAll_mk0)), rfl, bel.frame _, fun h => by cases h⟩

theorem nightRight_over : Rows.nightRightRow.holds Try.pinned (OpenSpec.ofChange Rows.nightRightSpec) :=
  OpenClaim.holds_of_wide 12 Try.f12 rfl rfl rfl rfl rfl rfl rfl ⟨rfl, rfl, rfl, rfl, rfl⟩ rfl rfl rfl rfl rfl (by kernel_rfl) Try.func12 (by kernel_rfl)
    (of_decide_eq_true (by kernel_rfl)) (by unfold Func.isWrapper; rw [if_neg (of_decide_eq_false (by kernel_rfl))]; exact ⟨rfl, rfl⟩)
    (fun os started H enc _ => nightRight_lifted os started H enc)

/-- THE STATEMENT -/
theorem nightRight_holds : Rows.NightRightSaid := nightRight_over
end Go.Proofs.Ytfhlopegmfdkpaa
