/- Openers: a text on a plate. -/
import Derived.Test.YtecaaimaeaocbaaDoorKOpen
namespace Go.Proofs.YtecaaimaeaocbaaDoor
open Go.RowKit Go.ChangeShapes Go.WideShapes
set_option maxRecDepth 100000 in
theorem o_kind : Opens Tryd.prog 71 2 (fun _ cs => ∃ x : Pt, cs = [.int .i64 x.a, .int .i64 x.b]) := by
  refine ⟨by kernel_rfl, fun H enc w base spare held fuel cs x h => ?_⟩
  have hl := opens_len Tryd.underlying71 h
  have hl' : cs.length = 2 := hl.trans (by kernel_rfl)
  obtain ⟨_, a0, h0, b0⟩ := opens_field Tryd.underlying71 h (j := 0) rfl o_int
  obtain ⟨_, a1, h1, b1⟩ := opens_field Tryd.underlying71 h (j := 1) rfl o_int
  have e0 := take1_at h0
  have e1 := take1_at h1
  refine ⟨hl', ⟨a0, a1⟩, ?_⟩
  match cs, hl' with
  | [c0, c1], _ => simp at e0 e1; subst e0 e1; rfl
theorem o_kinds : Opens Tryd.prog 47 1 (IsSlc Pt.enc 2 fun _ _ => True) :=
  (opens_slice Tryd.underlying47 (by kernel_rfl) (by omega) o_kind).imp fun w cs h => h.slc fun _ _ ⟨x, hx⟩ => ⟨x, hx, trivial⟩
set_option maxRecDepth 100000 in
theorem o_plate : Opens Tryd.prog 53 5 (fun w cs => ∃ (s : ByteArray) (PW PH PK : Int) (A : Option Addr) (c : Nat) (l : List Pt), cs = [.string s, .int .i64 PW, .int .i64 PH, .int .i64 PK, .slice A l.length c] ∧ s.size ≤ maxLen ∧ l.length ≤ maxLen ∧ Slc Pt.enc 2 w w.heap.size A l ∧ I64 PW ∧ I64 PH ∧ I64 PK) := by
  refine ⟨by kernel_rfl, fun H enc w base spare held fuel cs x h => ?_⟩
  have hl := opens_len Tryd.underlying53 h
  have hl' : cs.length = 5 := hl.trans (by kernel_rfl)
  obtain ⟨_, s, h0, z0⟩ := opens_field Tryd.underlying53 h (j := 0) rfl (opens_str Tryd.underlying9 (by kernel_rfl))
  obtain ⟨_, PW, h1, b1⟩ := opens_field Tryd.underlying53 h (j := 1) rfl o_int
  obtain ⟨_, PH, h2, b2⟩ := opens_field Tryd.underlying53 h (j := 2) rfl o_int
  obtain ⟨_, PK, h3, b3⟩ := opens_field Tryd.underlying53 h (j := 3) rfl o_int
  obtain ⟨_, A, c, l, h4, b4, S4, _⟩ := opens_field Tryd.underlying53 h (j := 4) rfl o_kinds
  have e0 := take1_at h0
  have e1 := take1_at h1
  have e2 := take1_at h2
  have e3 := take1_at h3
  have e4 := take1_at h4
  refine ⟨hl', s, PW, PH, PK, A, c, l, ?_, z0, b4, S4, b1, b2, b3⟩
  match cs, hl' with
  | [c0, c1, c2, c3, c4], _ => simp at e0 e1 e2 e3 e4; subst e0 e1 e2 e3 e4; rfl
end Go.Proofs.YtecaaimaeaocbaaDoor
