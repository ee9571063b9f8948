/- Openers: kinds, a text. -/
import Derived.Test.YtecaaimaeaocbaaDoorKOpen
namespace Go.Proofs.YtecaaimaeaocbaaDoor
open Go.RowKit Go.ChangeShapes Go.WideShapes
set_option maxRecDepth 100000 in
theorem o_kind : Opens Tryd.prog 71 2 (fun _ cs => ∃ x : Pt, cs = [.int .i64 x.a, .int .i64 x.b]) := by
  refine ⟨by kernel_rfl, fun H enc w base spare held fuel cs x h => ?_⟩
  have hl := opens_len Tryd.underlying71 h
  have hl' : cs.length = 2 := hl.trans (by kernel_rfl)
  obtain ⟨_, a0, h0, b0⟩ := opens_field Tryd.underlying71 h (j := 0) rfl o_int
  obtain ⟨_, a1, h1, b1⟩ := opens_field Tryd.underlying71 h (j := 1) rfl o_int
  have e0 := take1_at h0
  have e1 := take1_at h1
  refine ⟨hl', ⟨a0, a1⟩, ?_⟩
  match cs, hl' with
  | [c0, c1], _ => simp at e0 e1; subst e0 e1; rfl
theorem o_kinds : Opens Tryd.prog 47 1 (IsSlc Pt.enc 2 fun _ _ => True) :=
  (opens_slice Tryd.underlying47 (by kernel_rfl) (by omega) o_kind).imp fun w cs h => h.slc fun _ _ ⟨x, hx⟩ => ⟨x, hx, trivial⟩
end Go.Proofs.YtecaaimaeaocbaaDoor
