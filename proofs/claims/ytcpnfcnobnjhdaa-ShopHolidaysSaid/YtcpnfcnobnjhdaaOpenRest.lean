/- The opener of blazonlaw05.Rest. -/
import Derived.Test.YtcpnfcnobnjhdaaOpenTimes
namespace Go.Proofs.Ytcpnfcnobnjhdaa
open Go.RowKit Go.ChangeShapes Go.WideShapes
def U8 (n : Int) : Prop := 0 ≤ n ∧ n ≤ 255
theorem o_u8 : Opens Try.prog 5 1 (fun _ cs => ∃ n, cs = [.int .u8 n] ∧ U8 n) := (opens_int Try.underlying5 (by kernel_rfl)).imp fun _ _ ⟨n, h, hw⟩ => ⟨n, h, bounds_u8 hw⟩
theorem o_rest : Opens Try.prog 38 5 (fun _ cs => ∃ a b c m k, cs = [.int .u16 a, .int .u16 b, .int .u16 c, .int .u8 m, .int .u8 k] ∧ U16 a ∧ U16 b ∧ U16 c ∧ U8 m ∧ U8 k) := by
  refine ⟨by kernel_rfl, fun H enc w base spare held fuel cs x h => ?_⟩
  have hl := opens_len Try.underlying38 h
  have hl' : cs.length = 5 := hl.trans (by kernel_rfl)
  obtain ⟨_, a, h0, b0⟩ := opens_field Try.underlying38 h (j := 0) rfl o_u16
  obtain ⟨_, b, h1, b1⟩ := opens_field Try.underlying38 h (j := 1) rfl o_u16
  obtain ⟨_, c, h2, b2⟩ := opens_field Try.underlying38 h (j := 2) rfl o_u16
  obtain ⟨_, d, h3, b3⟩ := opens_field Try.underlying38 h (j := 3) rfl o_u8
  obtain ⟨_, k, h4, b4⟩ := opens_field Try.underlying38 h (j := 4) rfl o_u8
  have e0 := take1_at h0
  have e1 := take1_at h1
  have e2 := take1_at h2
  have e3 := take1_at h3
  have e4 := take1_at h4
  refine ⟨hl', a, b, c, d, k, ?_, b0, b1, b2, b3, b4⟩
  match cs, hl' with
  | [c0, c1, c2, c3, c4], _ => simp at e0 e1 e2 e3 e4; subst e0 e1 e2 e3 e4; rfl
end Go.Proofs.Ytcpnfcnobnjhdaa
