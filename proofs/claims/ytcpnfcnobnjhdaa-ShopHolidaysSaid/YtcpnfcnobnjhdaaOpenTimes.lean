/- The opener of blazonlaw05.Times. -/
import Derived.Test.YtcpnfcnobnjhdaaOpenShop
namespace Go.Proofs.Ytcpnfcnobnjhdaa
open Go.RowKit Go.ChangeShapes Go.WideShapes
def U16 (n : Int) : Prop := 0 ≤ n ∧ n ≤ 65535
theorem o_u16 : Opens Try.prog 33 1 (fun _ cs => ∃ n, cs = [.int .u16 n] ∧ U16 n) := (opens_int Try.underlying33 (by kernel_rfl)).imp fun _ _ ⟨n, h, hw⟩ => ⟨n, h, bounds_u16 hw⟩
theorem o_times : Opens Try.prog 35 4 (fun _ cs => ∃ a b c m, cs = [.int .u16 a, .int .u16 b, .int .u16 c, .int .u16 m] ∧ U16 a ∧ U16 b ∧ U16 c ∧ U16 m) := by
  refine ⟨by kernel_rfl, fun H enc w base spare held fuel cs x h => ?_⟩
  have hl := opens_len Try.underlying35 h
  have hl' : cs.length = 4 := hl.trans (by kernel_rfl)
  obtain ⟨_, a, h0, b0⟩ := opens_field Try.underlying35 h (j := 0) rfl o_u16
  obtain ⟨_, b, h1, b1⟩ := opens_field Try.underlying35 h (j := 1) rfl o_u16
  obtain ⟨_, c, h2, b2⟩ := opens_field Try.underlying35 h (j := 2) rfl o_u16
  obtain ⟨_, d, h3, b3⟩ := opens_field Try.underlying35 h (j := 3) rfl o_u16
  have e0 := take1_at h0
  have e1 := take1_at h1
  have e2 := take1_at h2
  have e3 := take1_at h3
  refine ⟨hl', a, b, c, d, ?_, b0, b1, b2, b3⟩
  match cs, hl' with
  | [c0, c1, c2, c3], _ => simp at e0 e1 e2 e3; subst e0 e1 e2 e3; rfl
end Go.Proofs.Ytcpnfcnobnjhdaa
