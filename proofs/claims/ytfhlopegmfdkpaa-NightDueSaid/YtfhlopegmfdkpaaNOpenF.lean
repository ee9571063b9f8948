/- The opener of a face. -/
import Derived.Test.YtfhlopegmfdkpaaNOpen
import Derived.Test.YtfhlopegmfdkpaaNDue1
namespace Go.Proofs.Ytfhlopegmfdkpaa
open Go.RowKit Go.ChangeShapes Go.WideShapes
set_option maxRecDepth 100000 in
theorem o_four : Opens Try.prog 58 4 (fun _ cs => ∃ a b c d : Int, cs = [.int .i64 a, .int .i64 b, .int .i64 c, .int .i64 d]) := by
  refine ⟨by kernel_rfl, fun H enc w base spare held fuel cs x h => ?_⟩
  obtain ⟨_, _, _, _, hlen, _⟩ := DataW.trod_array Try.underlying58 h
  have hl' : cs.length = 4 := hlen.trans (by kernel_rfl)
  obtain ⟨_, n0, h0, b0⟩ := opens_elem Try.underlying58 h (j := 0) (by omega) o_int
  obtain ⟨_, n1, h1, b1⟩ := opens_elem Try.underlying58 h (j := 1) (by omega) o_int
  obtain ⟨_, n2, h2, b2⟩ := opens_elem Try.underlying58 h (j := 2) (by omega) o_int
  obtain ⟨_, n3, h3, b3⟩ := opens_elem Try.underlying58 h (j := 3) (by omega) o_int
  have e0 := take1_at h0
  have e1 := take1_at h1
  have e2 := take1_at h2
  have e3 := take1_at h3
  refine ⟨hl', n0, n1, n2, n3, ?_⟩
  match cs, hl' with
  | [c0, c1, c2, c3], _ => simp at e0 e1 e2 e3; subst e0 e1 e2 e3; rfl
set_option maxRecDepth 100000 in
theorem o_ageing : Opens Try.prog 60 4 (fun _ cs => ∃ a b c d : Int, cs = [.int .i64 a, .int .i64 b, .int .i64 c, .int .i64 d]) := by
  refine ⟨by kernel_rfl, fun H enc w base spare held fuel cs x h => ?_⟩
  have hl := opens_len Try.underlying60 h
  have hl' : cs.length = 4 := hl.trans (by kernel_rfl)
  obtain ⟨_, a, b, c, d, h0⟩ := opens_field Try.underlying60 h (j := 0) rfl o_four
  have h0' : (cs.drop 0).take 4 = _ := h0
  rw [List.drop_zero, List.take_of_length_le (by omega)] at h0'
  exact ⟨hl', a, b, c, d, h0'⟩
set_option maxRecDepth 100000 in
theorem o_meas : Opens Try.prog 93 2 (fun _ cs => ∃ x : Ms, cs = [.int .i64 x.day, .int .i64 x.r]) := by
  refine ⟨by kernel_rfl, fun H enc w base spare held fuel cs x h => ?_⟩
  have hl := opens_len Try.underlying93 h
  have hl' : cs.length = 2 := hl.trans (by kernel_rfl)
  obtain ⟨_, a0, h0, b0⟩ := opens_field Try.underlying93 h (j := 0) rfl o_int
  obtain ⟨_, a1, h1, b1⟩ := opens_field Try.underlying93 h (j := 1) rfl o_int
  have e0 := take1_at h0
  have e1 := take1_at h1
  refine ⟨hl', ⟨a0, a1⟩, ?_⟩
  match cs, hl' with
  | [c0, c1], _ => simp at e0 e1; subst e0 e1; rfl
set_option maxRecDepth 100000 in
theorem o_meass : Opens Try.prog 61 1 (IsSlc Ms.enc 2 fun _ _ => True) :=
  (opens_slice Try.underlying61 (by kernel_rfl) (by omega) o_meas).imp fun w cs h => h.slc fun _ _ ⟨x, hx⟩ => ⟨x, hx, trivial⟩
set_option maxRecDepth 100000 in
theorem o_face : Opens Try.prog 63 12 (fun w cs => ∃ (nu ro ch cr k0 k1 k2 k3 side : Int) (A : Option Addr) (c : Nat) (ms : List Ms) (least lead : Int), cs = [.int .i64 nu, .int .i64 ro, .int .i64 ch, .int .i64 cr, .int .i64 k0, .int .i64 k1, .int .i64 k2, .int .i64 k3, .int .i64 side, .slice A ms.length c, .int .i64 least, .int .i64 lead] ∧ ms.length ≤ maxLen ∧ Slc Ms.enc 2 w w.heap.size A ms) := by
  refine ⟨by kernel_rfl, fun H enc w base spare held fuel cs x h => ?_⟩
  have hl := opens_len Try.underlying63 h
  have hl' : cs.length = 12 := hl.trans (by kernel_rfl)
  obtain ⟨_, nu, h0, _⟩ := opens_field Try.underlying63 h (j := 0) rfl o_int
  obtain ⟨_, ro, h1, _⟩ := opens_field Try.underlying63 h (j := 1) rfl o_int
  obtain ⟨_, ch, h2, _⟩ := opens_field Try.underlying63 h (j := 2) rfl o_int
  obtain ⟨_, cr, h3, _⟩ := opens_field Try.underlying63 h (j := 3) rfl o_int
  obtain ⟨_, k0, k1, k2, k3, h4⟩ := opens_field Try.underlying63 h (j := 4) rfl o_ageing
  obtain ⟨_, side, h5, _⟩ := opens_field Try.underlying63 h (j := 5) rfl o_int
  obtain ⟨_, A, c, ms, h6, b6, S6, _⟩ := opens_field Try.underlying63 h (j := 6) rfl o_meass
  obtain ⟨_, least, h7, _⟩ := opens_field Try.underlying63 h (j := 7) rfl o_int
  obtain ⟨_, lead, h8, _⟩ := opens_field Try.underlying63 h (j := 8) rfl o_int
  have e0 := take1_at h0
  have e1 := take1_at h1
  have e2 := take1_at h2
  have e3 := take1_at h3
  have h4' : (cs.drop 4).take 4 = _ := h4
  have e5 := take1_at h5
  have e6 := take1_at h6
  have e7 := take1_at h7
  have e8 := take1_at h8
  refine ⟨hl', nu, ro, ch, cr, k0, k1, k2, k3, side, A, c, ms, least, lead, ?_, b6, S6⟩
  match cs, hl' with
  | [c0, c1, c2, c3, c4, c5, c6, c7, c8, c9, c10, c11], _ =>
    simp at e0 e1 e2 e3 e5 e6 e7 e8 h4'
    obtain ⟨rfl, rfl, rfl, rfl⟩ := h4'
    subst e0 e1 e2 e3 e5 e6 e7 e8; rfl
end Go.Proofs.Ytfhlopegmfdkpaa
