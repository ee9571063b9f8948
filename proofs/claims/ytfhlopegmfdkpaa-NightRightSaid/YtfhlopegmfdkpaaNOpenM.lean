/- Openers of the further types of night's statements. -/
import Derived.Test.YtfhlopegmfdkpaaNOpen
namespace Go.Proofs.Ytfhlopegmfdkpaa
open Go.RowKit Go.ChangeShapes Go.WideShapes
def U8 (n : Int) : Prop := 0 ≤ n ∧ n ≤ 255
theorem o_u8 : Opens Try.prog 5 1 (fun _ cs => ∃ n, cs = [.int .u8 n] ∧ U8 n) := (opens_int Try.underlying5 (by kernel_rfl)).imp fun _ _ ⟨n, h, hw⟩ => ⟨n, h, bounds_u8 hw⟩
theorem o_more : Opens Try.prog 41 17 (fun _ cs => ∃ (x : Nit) (y : Job) (n : Int), cs = [.int .i64 x.day, .int .i64 x.road, .int .i64 x.lo, .int .i64 x.hi, .int .i64 x.crew, .int .i64 x.pl, .bool x.rain, .bool x.frost, .int .i64 y.n, .int .i64 y.road, .int .i64 y.chain, .int .i64 y.first, .int .i64 y.last, .int .i64 y.crew, .bool y.dry, .bool y.warm, .int .u8 n] ∧ U8 n) := by
  refine ⟨by kernel_rfl, fun H enc w base spare held fuel cs x h => ?_⟩
  have hl := opens_len Try.underlying41 h
  have hl' : cs.length = 17 := hl.trans (by kernel_rfl)
  obtain ⟨_, x, h0⟩ := opens_field Try.underlying41 h (j := 0) rfl o_nit
  obtain ⟨_, y, h1⟩ := opens_field Try.underlying41 h (j := 1) rfl o_job
  obtain ⟨_, n, h2, b2⟩ := opens_field Try.underlying41 h (j := 2) rfl o_u8
  have h0' : (cs.drop 0).take 8 = _ := h0
  have h1' : (cs.drop 8).take 8 = _ := h1
  have h2' : (cs.drop 16).take 1 = _ := h2
  have e : cs = (cs.drop 0).take 8 ++ ((cs.drop 8).take 8 ++ (cs.drop 16).take 1) := by
    have a1 : (cs.drop 16).take 1 = cs.drop 16 := List.take_of_length_le (by rw [List.length_drop]; omega)
    have a2 : (cs.drop 8).take 8 ++ cs.drop 16 = cs.drop 8 := by
      have := List.take_append_drop 8 (cs.drop 8)
      rwa [List.drop_drop] at this
    rw [List.drop_zero, a1, a2, List.take_append_drop]
  rw [h0', h1', h2'] at e
  exact ⟨hl', x, y, n, e, b2⟩
theorem o_asked : Opens Try.prog 72 3 (fun w cs => ∃ (A : Option Addr) (c : Nat) (l : List Int) (k : Int) (B : Option Addr) (d : Nat) (m : List Int), cs = [.slice A l.length c, .int .i64 k, .slice B m.length d] ∧ (l.length ≤ maxLen ∧ Slc intEnc 1 w w.heap.size A l) ∧ m.length ≤ maxLen ∧ Slc intEnc 1 w w.heap.size B m) := by
  refine ⟨by kernel_rfl, fun H enc w base spare held fuel cs x h => ?_⟩
  have hl := opens_len Try.underlying72 h
  have hl' : cs.length = 3 := hl.trans (by kernel_rfl)
  obtain ⟨_, A, c, l, h0, b0, S0, _⟩ := opens_field Try.underlying72 h (j := 0) rfl o_ints
  obtain ⟨_, k, h1, _⟩ := opens_field Try.underlying72 h (j := 1) rfl o_int
  obtain ⟨_, B, d, m, h2, b2, S2, _⟩ := opens_field Try.underlying72 h (j := 2) rfl o_ints
  have e0 := take1_at h0
  have e1 := take1_at h1
  have e2 := take1_at h2
  refine ⟨hl', A, c, l, k, B, d, m, ?_, ⟨b0, S0⟩, b2, S2⟩
  match cs, hl' with
  | [c0, c1, c2], _ => simp at e0 e1 e2; subst e0 e1 e2; rfl
end Go.Proofs.Ytfhlopegmfdkpaa
