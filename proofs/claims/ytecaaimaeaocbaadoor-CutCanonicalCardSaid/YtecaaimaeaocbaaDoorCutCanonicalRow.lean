/- A plan has the same canonical plan when its batches stand in another order or are split, and Canonical of Canonical is Canonical, with the same rolls but for those without pieces; for more than 30 batches or 40 numbers the law asks for its sanity check alone. No condition beyond the row's own. -/
import Derived.Test.YtecaaimaeaocbaaDoorRows
import Derived.Test.YtecaaimaeaocbaaDoorKOpen
import Derived.Test.YtecaaimaeaocbaaDoorKLaw6
import Derived.Test.YtecaaimaeaocbaaDoorKOpen4
import Derived.Test.YtecaaimaeaocbaaDoorOpen
import Derived.Carry
import Derived.LaidMore
import Derived.SevenTiedAt
import Derived.Test.YtecaaimaeaocbaaDoorCards
import Derived.Test.YtecaaimaeaocbaaDoorTie
namespace Go.Proofs.YtecaaimaeaocbaaDoor
open Go.ChangeShapes Go.WideShapes Go.ChangeAt Go.RowKit
open Go.ChangeMaps (open_string shut_string)

/-- what the program's own start lays meets the row's condition -/
theorem cutCanonical_met (os : Os) (args : Array Value) : laidMetH Tryd.prog Rows.cutCanonicalRow.laid ((World.doorLaid Tryd.prog 62 os).forCall (fun _ _ => 0) ⟨#[], args, []⟩).memory :=
  laidMetH_of_parts3 (fuel := 8) (laidMet_of_run' 8 (by kernel_rfl) (by kernel_rfl)) (by kernel_rfl) (by kernel_rfl)
set_option maxRecDepth 100000 in
theorem cutCanonical_lifted (os : Os) (started : os.Started) (H : Type) (enc : TypeId × Value → H) :
    ReturnsInHanded {} Tryd.checked os 14 .any (fun w args => (Rows.cutCanonicalSpec.pre enc Tryd.prog Tryd.f14 [] false w args ∧ laidMetH Tryd.prog Rows.cutCanonicalRow.laid w) ∧ sizedMet enc Tryd.prog Tryd.f14 (OpenSpec.ofChange Rows.cutCanonicalSpec) false w args) (Rows.cutCanonicalSpec.post enc Tryd.prog Tryd.f14 false true false false) := by
  refine returnsInHanded_of_change_and (C := Tryd.checked) (X := fun w _ => laidMetH Tryd.prog Rows.cutCanonicalRow.laid w) (fun _ _ _ hh h => h.of_heap hh) own_ started (by kernel_rfl) Tryd.func14
    (ChangeSpec.witness_shaped (enc := enc) (C := Tryd.checked) (os := os) (X := fun w _ => laidMetH Tryd.prog Rows.cutCanonicalRow.laid w) false (World.doorLaid Tryd.prog 62 os) #[.agg #[.int .i64 0, .int .i64 0, .slice none 0 0], .slice none 0 0, .slice none 0 0] 8 rfl (World.shaped_of_RefB (by kernel_rfl) (by kernel_rfl)) (by kernel_rfl) (by kernel_rfl) (by kernel_rfl) (cutCanonical_met os _)) ?_
  intro W base args ds gs before hval0 hW hcnd _ hL _
  have hval : ∀ (j : Nat) t v, Tryd.f14.params[j]? = some t → args[j]? = some v → Value.okWide Tryd.prog W .any base t v := hval0
  have hW' := hW
  obtain ⟨p, q, hA0, hV, rfl, hfz, hnd⟩ := hW
  have hA : DataW.TrodAll enc Tryd.prog W 0 (fun _ => true) true Tryd.f14.params.toList args.toList ds p := hA0
  rw [Tryd.params14] at hA hval
  obtain ⟨v0, vs0, d0, ds0, p0, q0, hargs, rfl, rfl, h0, r0⟩ := trodAll_cons hA
  obtain ⟨v1, vs1, d1, ds1, p1, q1, rfl, rfl, rfl, h1, r1⟩ := trodAll_cons r0
  obtain ⟨v2, vs2, d2, ds2, p2, q2, rfl, rfl, rfl, h2, r2⟩ := trodAll_cons r1
  obtain ⟨rfl, rfl, rfl⟩ := trodAll_nil r2
  obtain rfl : args = #[v0, v1, v2] := by cases args; simp_all
  obtain ⟨rfl, rfl⟩ := trodVars_none hV
  have k0 := h0
  have lt0 : ∀ x ∈ p0, x.block < W.heap.size := by obtain ⟨m, hm⟩ := k0; exact DataW.trod_lt m _ _ _ hm
  have k1 := h1
  have lt1 : ∀ x ∈ p1, x.block < W.heap.size := by obtain ⟨m, hm⟩ := k1; exact DataW.trod_lt m _ _ _ hm
  have k2 := h2
  have lt2 : ∀ x ∈ p2, x.block < W.heap.size := by obtain ⟨m, hm⟩ := k2; exact DataW.trod_lt m _ _ _ hm
  obtain ⟨l0, rfl, L0, K0, A0, c0, as0, rfl, hLK0, la0, S0⟩ := arg_struct Tryd.underlying24 o_cutting (hval 0 _ v0 rfl rfl) h0
  obtain ⟨A1, c1, l1, rfl, len1, S1, I1⟩ := arg_slc Tryd.underlying74 o_batches (hval 1 _ v1 rfl rfl) h1
  obtain ⟨pl1, P1⟩ := plan_of S1 I1
  obtain ⟨A2, c2, l2, rfl, len2, S2, I2⟩ := arg_slc Tryd.underlying25 o_ints (hval 2 _ v2 rfl rfl) h2
  clear hA0 hval0
  refine (canonical_n L0 K0 A0 c0 as0 A1 c1 l1 pl1 A2 c2 l2 W S0 P1 S2 len1 len2).mono fun e W' ⟨he, bel⟩ => ?_
  subst he
  exact ⟨_, rfl, _, _, _, [], _, [], hW', trodAll_mk1 (shut_bool Tryd.underlying4 _), (trodAll_cons_mk (Below.trod laidOut_ (by kernel_rfl) (of_decide_eq_true (by kernel_rfl)) k0 bel lt0) (trodAll_cons_mk (Below.trod laidOut_ (by kernel_rfl) (of_decide_eq_true (by kernel_rfl)) k1 bel lt1) (trodAll_cons_mk (Below.trod laidOut_ (by kernel_rfl) (of_decide_eq_true (by kernel_rfl)) k2 bel lt2) trodAll_mk0))), rfl, bel.frame _, fun h => by cases h⟩

theorem cutCanonical_over : Rows.cutCanonicalRow.holds Tryd.pinned (OpenSpec.ofChange Rows.cutCanonicalSpec) :=
  OpenClaim.holds_of_wide 14 Tryd.f14 rfl rfl rfl rfl rfl rfl rfl ⟨rfl, rfl, rfl, rfl, rfl⟩ rfl rfl rfl rfl rfl (by kernel_rfl) Tryd.func14 (by kernel_rfl)
    (of_decide_eq_true (by kernel_rfl)) (by unfold Func.isWrapper; rw [if_neg (of_decide_eq_false (by kernel_rfl))]; exact ⟨rfl, rfl⟩)
    (fun os started H enc _ => cutCanonical_lifted os started H enc)

/-- THE STATEMENT: the tied card -/
theorem cutCanonical_holds : Rows.CutCanonicalCardSaid :=
  Claim7.holds_tied_plain_at .later [] [.data, .data, .data, .sentinel, .sentinel] true (true, "2858789b77dbfb8c6ea20a5ced8c15d0d73bc4d4097f3083f6191a664c680e9e") true
    cutCanonical_over (fun _ h => by cases h) (by kernel_rfl) (fun _ h => by cases h) cutCanonical_row_tie rfl ⟨rfl, rfl⟩ (by kernel_rfl) rfl
    (fun f fn hf hfn => by
      obtain rfl : f = 14 := Option.some.inj ((show Tryd.prog.funcNamed "blazon/blazonlaw04.CutCanonical" = some 14 by kernel_rfl).symm.trans hf) |>.symm
      obtain rfl : fn = Tryd.f14 := (Option.some.inj (Tryd.func14.symm.trans hfn)).symm
      exact ⟨by kernel_rfl, fun j t ht => by
        rw [Tryd.params14] at ht
        have hm : t ∈ [24, 74, 25] := by simpa using Array.mem_of_getElem? ht
        have hall : ([24, 74, 25].all fun u => !Tryd.prog.wantsStandIn u) = true := by kernel_rfl
        exact (show Tryd.prog.wantsStandIn t = false by simpa using List.all_eq_true.1 hall t hm)⟩)
    (by kernel_rfl)
end Go.Proofs.YtecaaimaeaocbaaDoor
