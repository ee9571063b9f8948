/- Parts of the proofs of this seat: KOpen3, KOpen4, TOpen. Each part says what it proves; no condition beyond those stated there. -/
import Derived.Test.YtkcfalehebacpaaDoorB2
import Derived.Test.YtkcfalehebacpaaDoorB9

/- Openers: a batch, a plan. -/
namespace Go.Proofs.YtkcfalehebacpaaDoor
open Go.RowKit Go.ChangeShapes Go.WideShapes
set_option maxRecDepth 100000 in
theorem o_batch : Opens Tryd.prog 43 2 (fun w cs => ∃ x : Bt, cs = [.int .i64 x.t, .slice x.A x.n x.c] ∧ ∃ ps : List Int, ps.length = x.n ∧ x.n ≤ maxLen ∧ Slc intEnc 1 w w.heap.size x.A ps) := by
  refine ⟨by kernel_rfl, fun H enc w base spare held fuel cs x h => ?_⟩
  have hl := opens_len Tryd.underlying43 h
  have hl' : cs.length = 2 := hl.trans (by kernel_rfl)
  obtain ⟨_, a0, h0, b0⟩ := opens_field Tryd.underlying43 h (j := 0) rfl o_int
  obtain ⟨_, A, c, ps, h1, b1, S1, _⟩ := opens_field Tryd.underlying43 h (j := 1) rfl o_ints
  have e0 := take1_at h0
  have e1 := take1_at h1
  refine ⟨hl', ⟨a0, A, ps.length, c⟩, ?_, ps, rfl, b1, S1⟩
  match cs, hl' with
  | [c0, c1], _ => simp at e0 e1; subst e0 e1; rfl
/-- each batch's counts -/
def BtIn (w : World) (b : Bt) : Prop := ∃ ps : List Int, ps.length = b.n ∧ b.n ≤ maxLen ∧ Slc intEnc 1 w w.heap.size b.A ps
theorem o_batches : Opens Tryd.prog 26 1 (IsSlc Bt.enc 2 fun w b => BtIn w b) :=
  (opens_slice Tryd.underlying26 (by kernel_rfl) (by omega) o_batch).imp fun w cs h => h.slc fun _ _ ⟨x, hx, h⟩ => ⟨x, hx, h⟩
end Go.Proofs.YtkcfalehebacpaaDoor

/- A plan as an argument. -/
namespace Go.Proofs.YtkcfalehebacpaaDoor
open Go.RowKit
theorem plan_of {w : World} {A : Option Addr} {bs : List Bt} (hS : Slc Bt.enc 2 w w.heap.size A bs) (hI : ∀ (i : Nat) x, bs[i]? = some x → BtIn w x) : ∃ pl : List Bat, PlanAt w A bs pl := by
  obtain ⟨pl, hl, hp⟩ := list_of (fun i (p : Bat) => ∀ b, bs[i]? = some b → b.t = p.t ∧ b.n = p.ps.length ∧ Slc intEnc 1 w w.heap.size b.A p.ps) bs.length fun i hi => by
    have hb : bs[i]? = some bs[i] := List.getElem?_eq_getElem hi
    obtain ⟨ps, h1, _, h3⟩ := hI i _ hb
    exact ⟨⟨bs[i].t, ps⟩, fun b hb2 => by
      rw [hb] at hb2
      injection hb2 with hb2
      subst hb2; exact ⟨rfl, h1.symm, h3⟩⟩
  exact ⟨pl, hS, hl.symm, fun i b p h1 h2 => hp i p h2 b h1⟩
end Go.Proofs.YtkcfalehebacpaaDoor

/- Opener: a cutting with prices and a plan. -/
namespace Go.Proofs.YtkcfalehebacpaaDoor
open Go.RowKit Go.ChangeShapes Go.WideShapes
set_option maxRecDepth 100000 in
theorem o_proof : Opens Tryd.prog 28 5 (fun w cs => ∃ (L K : Int) (A : Option Addr) (c : Nat) (l : List Ask) (AP : Option Addr) (cP : Nat) (ps : List Int) (AB : Option Addr) (cB : Nat) (bs : List Bt) (pl : List Bat), cs = [.int .i64 L, .int .i64 K, .slice A l.length c, .slice AP ps.length cP, .slice AB pl.length cB] ∧ Slc Ask.enc 2 w w.heap.size A l ∧ Slc intEnc 1 w w.heap.size AP ps ∧ PlanAt w AB bs pl) := by
  refine ⟨by kernel_rfl, fun H enc w base spare held fuel cs x h => ?_⟩
  have hl := opens_len Tryd.underlying28 h
  have hl' : cs.length = 5 := hl.trans (by kernel_rfl)
  obtain ⟨_, L, K, A, c, l, h0, _, _, S0⟩ := opens_field Tryd.underlying28 h (j := 0) rfl o_cutting
  obtain ⟨_, AP, cP, ps, h1, _, S1, _⟩ := opens_field Tryd.underlying28 h (j := 1) rfl o_ints
  obtain ⟨_, AB, cB, bs, h2, _, S2, I2⟩ := opens_field Tryd.underlying28 h (j := 2) rfl o_batches
  obtain ⟨pl, P2⟩ := plan_of S2 I2
  have h0' : (cs.drop 0).take 3 = _ := h0
  have h1' : (cs.drop 3).take 1 = _ := h1
  have h2' : (cs.drop 4).take 1 = _ := h2
  have e : cs = (cs.drop 0).take 3 ++ ((cs.drop 3).take 1 ++ (cs.drop 4).take 1) := by
    have a1 : (cs.drop 4).take 1 = cs.drop 4 := List.take_of_length_le (by rw [List.length_drop]; omega)
    have a2 : (cs.drop 3).take 1 ++ cs.drop 4 = cs.drop 3 := by
      have := List.take_append_drop 1 (cs.drop 3)
      rwa [List.drop_drop] at this
    rw [List.drop_zero, a1, a2, List.take_append_drop]
  rw [h0', h1', h2', P2.len] at e
  exact ⟨hl', L, K, A, c, l, AP, cP, ps, AB, cB, bs, pl, e, S0, S1, P2⟩
end Go.Proofs.YtkcfalehebacpaaDoor
