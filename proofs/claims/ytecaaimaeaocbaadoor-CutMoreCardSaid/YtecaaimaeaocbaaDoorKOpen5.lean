/- Openers: three small numbers. -/
import Derived.Test.YtecaaimaeaocbaaDoorKOpen
namespace Go.Proofs.YtecaaimaeaocbaaDoor
open Go.RowKit Go.ChangeShapes Go.WideShapes
theorem o_u8x : Opens Tryd.prog 5 1 (fun _ cs => ∃ n : Int, cs = [.int .u8 n] ∧ (0 ≤ n ∧ n ≤ 255)) := (opens_int Tryd.underlying5 (by kernel_rfl)).imp fun _ _ ⟨n, h, hw⟩ => ⟨n, h, bounds_u8 hw⟩
theorem o_arru3 : Opens Tryd.prog 43 3 (fun _ cs => ∃ a b c : Int, cs = [.int .u8 a, .int .u8 b, .int .u8 c] ∧ (0 ≤ a ∧ a ≤ 255) ∧ (0 ≤ b ∧ b ≤ 255) ∧ (0 ≤ c ∧ c ≤ 255)) := by
  refine ⟨by kernel_rfl, fun H enc w base spare held fuel cs x h => ?_⟩
  have hl' : cs.length = 3 := by
    obtain ⟨xs, n, _, _, hlen, _⟩ := DataW.trod_array Tryd.underlying43 h
    exact hlen.trans (by kernel_rfl)
  obtain ⟨_, n0, h0, b0⟩ := opens_elem Tryd.underlying43 h (j := 0) (by omega) o_u8x
  obtain ⟨_, n1, h1, b1⟩ := opens_elem Tryd.underlying43 h (j := 1) (by omega) o_u8x
  obtain ⟨_, n2, h2, b2⟩ := opens_elem Tryd.underlying43 h (j := 2) (by omega) o_u8x
  have e0 := take1_at h0
  have e1 := take1_at h1
  have e2 := take1_at h2
  refine ⟨hl', n0, n1, n2, ?_, b0, b1, b2⟩
  match cs, hl' with
  | [c0, c1, c2], _ => simp at e0 e1 e2; subst e0 e1 e2; rfl
end Go.Proofs.YtecaaimaeaocbaaDoor
