/- Openers of the types of sheet's statements. -/
import Derived.Test.YtnejacogflkmmaaOpen
namespace Go.Proofs.Ytnejacogflkmmaa
open Go.RowKit Go.ChangeShapes Go.WideShapes

def I64 (n : Int) : Prop := -9223372036854775808 ≤ n ∧ n ≤ 9223372036854775807
theorem o_int : Opens Try.prog 3 1 (fun _ cs => ∃ n, cs = [.int .i64 n] ∧ I64 n) := (opens_int Try.underlying3 (by kernel_rfl)).imp fun _ _ ⟨n, h, hw⟩ => ⟨n, h, bounds_i64 hw⟩
def PtOk (_ : World) (p : Pt) : Prop := I64 p.a ∧ I64 p.b
theorem o_span : Opens Try.prog 87 2 (fun w cs => ∃ p : Pt, cs = Pt.enc p ∧ PtOk w p) := by
  refine ⟨by kernel_rfl, fun H enc w base spare held fuel cs x h => ?_⟩
  have hl := opens_len Try.underlying87 h
  have hl' : cs.length = 2 := hl.trans (by kernel_rfl)
  obtain ⟨_, a, h0, b0⟩ := opens_field Try.underlying87 h (j := 0) rfl o_int
  obtain ⟨_, b, h1, b1⟩ := opens_field Try.underlying87 h (j := 1) rfl o_int
  have e0 := take1_at h0
  have e1 := take1_at h1
  refine ⟨hl', ⟨a, b⟩, ?_, b0, b1⟩
  match cs, hl' with
  | [c0, c1], _ => simp at e0 e1; subst e0 e1; rfl
theorem o_spans : Opens Try.prog 22 1 (IsSlc Pt.enc 2 PtOk) :=
  (opens_slice Try.underlying22 (by kernel_rfl) (by omega) o_span).imp fun w cs h => h.slc fun _ _ h => h
/-- a roll's cells -/
def IsRoll (w : World) (cs : List Value) : Prop :=
  ∃ id grade colour lot made width len A c, ∃ fs : List Pt, cs = [.int .i64 id, .int .i64 grade, .int .i64 colour, .int .i64 lot, .int .i64 made, .int .i64 width, .int .i64 len, .slice A fs.length c] ∧
    (I64 id ∧ I64 grade ∧ I64 colour ∧ I64 lot ∧ I64 made ∧ I64 width ∧ I64 len) ∧ fs.length ≤ maxLen ∧ Slc Pt.enc 2 w w.heap.size A fs ∧ ∀ (i : Nat) x, fs[i]? = some x → PtOk w x
theorem o_roll : Opens Try.prog 24 8 IsRoll := by
  refine ⟨by kernel_rfl, fun H enc w base spare held fuel cs x h => ?_⟩
  have hl := opens_len Try.underlying24 h
  have hl' : cs.length = 8 := hl.trans (by kernel_rfl)
  obtain ⟨_, n0, h0, b0⟩ := opens_field Try.underlying24 h (j := 0) rfl o_int
  obtain ⟨_, n1, h1, b1⟩ := opens_field Try.underlying24 h (j := 1) rfl o_int
  obtain ⟨_, n2, h2, b2⟩ := opens_field Try.underlying24 h (j := 2) rfl o_int
  obtain ⟨_, n3, h3, b3⟩ := opens_field Try.underlying24 h (j := 3) rfl o_int
  obtain ⟨_, n4, h4, b4⟩ := opens_field Try.underlying24 h (j := 4) rfl o_int
  obtain ⟨_, n5, h5, b5⟩ := opens_field Try.underlying24 h (j := 5) rfl o_int
  obtain ⟨_, n6, h6, b6⟩ := opens_field Try.underlying24 h (j := 6) rfl o_int
  obtain ⟨_, A, c, fs, h7, b7⟩ := opens_field Try.underlying24 h (j := 7) rfl o_spans
  have e0 := take1_at h0
  have e1 := take1_at h1
  have e2 := take1_at h2
  have e3 := take1_at h3
  have e4 := take1_at h4
  have e5 := take1_at h5
  have e6 := take1_at h6
  have e7 := take1_at h7
  refine ⟨hl', n0, n1, n2, n3, n4, n5, n6, A, c, fs, ?_, ⟨b0, b1, b2, b3, b4, b5, b6⟩, b7⟩
  match cs, hl' with
  | [c0, c1, c2, c3, c4, c5, c6, c7], _ => simp at e0 e1 e2 e3 e4 e5 e6 e7; subst e0 e1 e2 e3 e4 e5 e6 e7; rfl
/-- rules' cells -/
def IsShelf (_ : World) (cs : List Value) : Prop :=
  ∃ mw ml l0 l1 l2, cs = [.int .i64 mw, .int .i64 ml, .int .i64 l0, .int .i64 l1, .int .i64 l2] ∧ I64 mw ∧ I64 ml ∧ I64 l0 ∧ I64 l1 ∧ I64 l2
theorem o_arr3 : Opens Try.prog 25 3 (fun _ cs => ∃ a b c, cs = [.int .i64 a, .int .i64 b, .int .i64 c] ∧ I64 a ∧ I64 b ∧ I64 c) := by
  refine ⟨by kernel_rfl, fun H enc w base spare held fuel cs x h => ?_⟩
  have hl' : cs.length = 3 := by
    obtain ⟨xs, n, _, _, hlen, _⟩ := DataW.trod_array Try.underlying25 h
    exact hlen.trans (by kernel_rfl)
  obtain ⟨_, n0, h0, b0⟩ := opens_elem Try.underlying25 h (j := 0) (by omega) o_int
  obtain ⟨_, n1, h1, b1⟩ := opens_elem Try.underlying25 h (j := 1) (by omega) o_int
  obtain ⟨_, n2, h2, b2⟩ := opens_elem Try.underlying25 h (j := 2) (by omega) o_int
  have e0 := take1_at h0
  have e1 := take1_at h1
  have e2 := take1_at h2
  refine ⟨hl', n0, n1, n2, ?_, b0, b1, b2⟩
  match cs, hl' with
  | [c0, c1, c2], _ => simp at e0 e1 e2; subst e0 e1 e2; rfl
theorem o_shelf : Opens Try.prog 27 5 IsShelf := by
  refine ⟨by kernel_rfl, fun H enc w base spare held fuel cs x h => ?_⟩
  have hl := opens_len Try.underlying27 h
  have hl' : cs.length = 5 := hl.trans (by kernel_rfl)
  obtain ⟨_, n0, h0, b0⟩ := opens_field Try.underlying27 h (j := 0) rfl o_int
  obtain ⟨_, n1, h1, b1⟩ := opens_field Try.underlying27 h (j := 1) rfl o_int
  obtain ⟨_, a, b, c, h2, b2⟩ := opens_field Try.underlying27 h (j := 2) rfl o_arr3
  have e0 := take1_at h0
  have e1 := take1_at h1
  refine ⟨hl', n0, n1, a, b, c, ?_, b0, b1, b2⟩
  match cs, hl' with
  | [c0, c1, c2, c3, c4], _ => simp at e0 e1 h2; obtain ⟨e2, e3, e4⟩ := h2; subst e0 e1 e2 e3 e4; rfl
end Go.Proofs.Ytnejacogflkmmaa
