/- Openers: places, three numbers. -/
import Derived.Test.YtecaaimaeaocbaaDoorKOpen
import Derived.Test.YtecaaimaeaocbaaDoorKClashP
namespace Go.Proofs.YtecaaimaeaocbaaDoor
open Go.RowKit Go.ChangeShapes Go.WideShapes
theorem slc_cap {P : Program} {t e : TypeId} {H : Type} {enc : TypeId × Value → H} {w : World} {base : Nat} {spare : Nat → Bool} {held : Bool} {A : Option Addr} {n c : Nat} {d : DataW H} {p : List MemPlace}
    (ht : P.underlying t = some (.slice e)) (h : DataW.Trod enc P w base spare held t (.slice A n c) d p) : n ≤ c := by
  obtain ⟨fuel, hf⟩ := h
  rcases DataW.trod_slice ht hf with ⟨h0, _⟩ | ⟨a, len, cap, _, _, _, _, h0, _, _, hl, _⟩
  · simp [Value.cells] at h0; omega
  · simp [Value.cells] at h0; omega
theorem o_u8 : Opens Tryd.prog 5 1 (fun _ cs => ∃ n, cs = [.int .u8 n]) := (opens_int Tryd.underlying5 (by kernel_rfl)).imp fun _ _ ⟨n, h, _⟩ => ⟨n, h⟩
set_option maxRecDepth 100000 in
theorem o_place : Opens Tryd.prog 38 5 (fun _ cs => ∃ x : Pl, cs = [.int .u8 x.pc, .int .i64 x.x, .int .i64 x.y, .int .i64 x.w, .int .i64 x.h]) := by
  refine ⟨by kernel_rfl, fun H enc w base spare held fuel cs x h => ?_⟩
  have hl := opens_len Tryd.underlying38 h
  have hl' : cs.length = 5 := hl.trans (by kernel_rfl)
  obtain ⟨_, a0, h0⟩ := opens_field Tryd.underlying38 h (j := 0) rfl o_u8
  obtain ⟨_, a1, h1, b1⟩ := opens_field Tryd.underlying38 h (j := 1) rfl o_int
  obtain ⟨_, a2, h2, b2⟩ := opens_field Tryd.underlying38 h (j := 2) rfl o_int
  obtain ⟨_, a3, h3, b3⟩ := opens_field Tryd.underlying38 h (j := 3) rfl o_int
  obtain ⟨_, a4, h4, b4⟩ := opens_field Tryd.underlying38 h (j := 4) rfl o_int
  have e0 := take1_at h0
  have e1 := take1_at h1
  have e2 := take1_at h2
  have e3 := take1_at h3
  have e4 := take1_at h4
  refine ⟨hl', ⟨a0, a1, a2, a3, a4⟩, ?_⟩
  match cs, hl' with
  | [c0, c1, c2, c3, c4], _ => simp at e0 e1 e2 e3 e4; subst e0 e1 e2 e3 e4; rfl
theorem o_places : Opens Tryd.prog 35 1 (IsSlc Pl.enc 5 fun _ _ => True) :=
  (opens_slice Tryd.underlying35 (by kernel_rfl) (by omega) o_place).imp fun w cs h => h.slc fun _ _ ⟨x, hx⟩ => ⟨x, hx, trivial⟩
theorem o_arr3 : Opens Tryd.prog 36 3 (fun _ cs => ∃ a b c, cs = [.int .i64 a, .int .i64 b, .int .i64 c]) := by
  refine ⟨by kernel_rfl, fun H enc w base spare held fuel cs x h => ?_⟩
  have hl' : cs.length = 3 := by
    obtain ⟨xs, n, _, _, hlen, _⟩ := DataW.trod_array Tryd.underlying36 h
    exact hlen.trans (by kernel_rfl)
  obtain ⟨_, n0, h0, b0⟩ := opens_elem Tryd.underlying36 h (j := 0) (by omega) o_int
  obtain ⟨_, n1, h1, b1⟩ := opens_elem Tryd.underlying36 h (j := 1) (by omega) o_int
  obtain ⟨_, n2, h2, b2⟩ := opens_elem Tryd.underlying36 h (j := 2) (by omega) o_int
  have e0 := take1_at h0
  have e1 := take1_at h1
  have e2 := take1_at h2
  refine ⟨hl', n0, n1, n2, ?_⟩
  match cs, hl' with
  | [c0, c1, c2], _ => simp at e0 e1 e2; subst e0 e1 e2; rfl
end Go.Proofs.YtecaaimaeaocbaaDoor
