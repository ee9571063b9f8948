/- Openers of the types of the cutting's statements. -/
import Derived.Test.YtecaaimaeaocbaaDoorOpen
import Derived.Test.YtecaaimaeaocbaaDoorKP
namespace Go.Proofs.YtecaaimaeaocbaaDoor
open Go.RowKit Go.ChangeShapes Go.WideShapes
def I64 (n : Int) : Prop := -9223372036854775808 ≤ n ∧ n ≤ 9223372036854775807
theorem o_int : Opens Tryd.prog 3 1 (fun _ cs => ∃ n, cs = [.int .i64 n] ∧ I64 n) := (opens_int Tryd.underlying3 (by kernel_rfl)).imp fun _ _ ⟨n, h, hw⟩ => ⟨n, h, bounds_i64 hw⟩
theorem o_ints : Opens Tryd.prog 25 1 (IsSlc intEnc 1 fun _ n => I64 n) :=
  (opens_slice Tryd.underlying25 (by kernel_rfl) (by omega) o_int).imp fun w cs h => h.slc fun _ _ h => h
set_option maxRecDepth 100000 in
theorem o_ask : Opens Tryd.prog 45 2 (fun _ cs => ∃ x : Ask, cs = [.int .i64 x.len, .int .i64 x.cnt]) := by
  refine ⟨by kernel_rfl, fun H enc w base spare held fuel cs x h => ?_⟩
  have hl := opens_len Tryd.underlying45 h
  have hl' : cs.length = 2 := hl.trans (by kernel_rfl)
  obtain ⟨_, a0, h0, b0⟩ := opens_field Tryd.underlying45 h (j := 0) rfl o_int
  obtain ⟨_, a1, h1, b1⟩ := opens_field Tryd.underlying45 h (j := 1) rfl o_int
  have e0 := take1_at h0
  have e1 := take1_at h1
  refine ⟨hl', ⟨a0, a1⟩, ?_⟩
  match cs, hl' with
  | [c0, c1], _ => simp at e0 e1; subst e0 e1; rfl
theorem o_asks : Opens Tryd.prog 22 1 (IsSlc Ask.enc 2 fun _ _ => True) :=
  (opens_slice Tryd.underlying22 (by kernel_rfl) (by omega) o_ask).imp fun w cs h => h.slc fun _ _ ⟨x, hx⟩ => ⟨x, hx, trivial⟩
set_option maxRecDepth 100000 in
theorem o_cutting : Opens Tryd.prog 24 3 (fun w cs => ∃ (L K : Int) (A : Option Addr) (c : Nat) (l : List Ask), cs = [.int .i64 L, .int .i64 K, .slice A l.length c] ∧ (I64 L ∧ I64 K) ∧ l.length ≤ maxLen ∧ Slc Ask.enc 2 w w.heap.size A l) := by
  refine ⟨by kernel_rfl, fun H enc w base spare held fuel cs x h => ?_⟩
  have hl := opens_len Tryd.underlying24 h
  have hl' : cs.length = 3 := hl.trans (by kernel_rfl)
  obtain ⟨_, L, h0, b0⟩ := opens_field Tryd.underlying24 h (j := 0) rfl o_int
  obtain ⟨_, K, h1, b1⟩ := opens_field Tryd.underlying24 h (j := 1) rfl o_int
  obtain ⟨_, A, c, l, h2, b2, S2, _⟩ := opens_field Tryd.underlying24 h (j := 2) rfl o_asks
  have e0 := take1_at h0
  have e1 := take1_at h1
  have e2 := take1_at h2
  refine ⟨hl', L, K, A, c, l, ?_, ⟨b0, b1⟩, b2, S2⟩
  match cs, hl' with
  | [c0, c1, c2], _ => simp at e0 e1 e2; subst e0 e1 e2; rfl
end Go.Proofs.YtecaaimaeaocbaaDoor
