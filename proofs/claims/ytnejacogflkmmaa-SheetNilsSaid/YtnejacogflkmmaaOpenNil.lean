/- Opener: the arguments of a nil store's calls. -/
import Derived.Test.YtnejacogflkmmaaOpenCall
namespace Go.Proofs.Ytnejacogflkmmaa
open Go.RowKit Go.ChangeShapes Go.WideShapes
set_option maxRecDepth 100000 in
theorem o_nil : Opens Try.prog 73 16 (fun _ cs => ∃ id gr co lo ma wi le A n c g q x l k day nid what, cs = [.int .i64 id, .int .i64 gr, .int .i64 co, .int .i64 lo, .int .i64 ma, .int .i64 wi, .int .i64 le, .slice A n c, .int .i64 g, .int .i64 q, .int .i64 x, .int .i64 l, .int .i64 k, .int .i64 day, .int .i64 nid, .int .i64 what]) := by
  refine ⟨by kernel_rfl, fun H enc w base spare held fuel cs x h => ?_⟩
  have hl := opens_len Try.underlying73 h
  have hl' : cs.length = 16 := hl.trans (by kernel_rfl)
  obtain ⟨_, id, gr, co, lo, ma, wi, le, A, c, fs, h0, _, _⟩ := opens_field Try.underlying73 h (j := 0) rfl o_roll
  obtain ⟨_, g, q, x, l, k, h1, _⟩ := opens_field Try.underlying73 h (j := 1) rfl o_need
  obtain ⟨_, n2, h2, _⟩ := opens_field Try.underlying73 h (j := 2) rfl o_int
  obtain ⟨_, n3, h3, _⟩ := opens_field Try.underlying73 h (j := 3) rfl o_int
  obtain ⟨_, n4, h4, _⟩ := opens_field Try.underlying73 h (j := 4) rfl o_int
  have h0' : (cs.drop 0).take 8 = _ := h0
  have h1' : (cs.drop 8).take 5 = _ := h1
  have h2' : (cs.drop 13).take 1 = _ := h2
  have h3' : (cs.drop 14).take 1 = _ := h3
  have h4' : (cs.drop 15).take 1 = _ := h4
  have e : cs = (cs.drop 0).take 8 ++ ((cs.drop 8).take 5 ++ ((cs.drop 13).take 1 ++ ((cs.drop 14).take 1 ++ (cs.drop 15).take 1))) := by
    have a1 : (cs.drop 15).take 1 = cs.drop 15 := List.take_of_length_le (by rw [List.length_drop]; omega)
    rw [a1, ← split_at cs 14 1, ← split_at cs 13 1, ← split_at cs 8 5, ← split_at cs 0 8, List.drop_zero]
  rw [h0', h1', h2', h3', h4'] at e
  exact ⟨hl', id, gr, co, lo, ma, wi, le, A, _, c, g, q, x, l, k, n2, n3, n4, e⟩
end Go.Proofs.Ytnejacogflkmmaa
