/- Openers: a batch, a plan. -/
import Derived.Test.YtecaaimaeaocbaaDoorKOpen
import Derived.Test.YtecaaimaeaocbaaDoorKBatch
namespace Go.Proofs.YtecaaimaeaocbaaDoor
open Go.RowKit Go.ChangeShapes Go.WideShapes
set_option maxRecDepth 100000 in
theorem o_batch : Opens Tryd.prog 73 2 (fun w cs => ∃ x : Bt, cs = [.int .i64 x.t, .slice x.A x.n x.c] ∧ ∃ ps : List Int, ps.length = x.n ∧ x.n ≤ maxLen ∧ Slc intEnc 1 w w.heap.size x.A ps) := by
  refine ⟨by kernel_rfl, fun H enc w base spare held fuel cs x h => ?_⟩
  have hl := opens_len Tryd.underlying73 h
  have hl' : cs.length = 2 := hl.trans (by kernel_rfl)
  obtain ⟨_, a0, h0, b0⟩ := opens_field Tryd.underlying73 h (j := 0) rfl o_int
  obtain ⟨_, A, c, ps, h1, b1, S1, _⟩ := opens_field Tryd.underlying73 h (j := 1) rfl o_ints
  have e0 := take1_at h0
  have e1 := take1_at h1
  refine ⟨hl', ⟨a0, A, ps.length, c⟩, ?_, ps, rfl, b1, S1⟩
  match cs, hl' with
  | [c0, c1], _ => simp at e0 e1; subst e0 e1; rfl
/-- each batch's counts -/
def BtIn (w : World) (b : Bt) : Prop := ∃ ps : List Int, ps.length = b.n ∧ b.n ≤ maxLen ∧ Slc intEnc 1 w w.heap.size b.A ps
theorem o_batches : Opens Tryd.prog 74 1 (IsSlc Bt.enc 2 fun w b => BtIn w b) :=
  (opens_slice Tryd.underlying74 (by kernel_rfl) (by omega) o_batch).imp fun w cs h => h.slc fun _ _ ⟨x, hx, h⟩ => ⟨x, hx, h⟩
end Go.Proofs.YtecaaimaeaocbaaDoor
