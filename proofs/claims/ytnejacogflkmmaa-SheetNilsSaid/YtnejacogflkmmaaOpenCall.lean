/- Openers: needs, calls of a store, a list of them. -/
import Derived.Test.YtnejacogflkmmaaOpenSheet
namespace Go.Proofs.Ytnejacogflkmmaa
open Go.RowKit Go.ChangeShapes Go.WideShapes
theorem split_at {α : Type} (cs : List α) (i n : Nat) : cs.drop i = (cs.drop i).take n ++ cs.drop (i + n) := by
  rw [← List.drop_drop, List.take_append_drop]
theorem o_need : Opens Try.prog 62 5 (fun _ cs => ∃ g q x l k, cs = [.int .i64 g, .int .i64 q, .int .i64 x, .int .i64 l, .int .i64 k] ∧ I64 g ∧ I64 q ∧ I64 x ∧ I64 l ∧ I64 k) := by
  refine ⟨by kernel_rfl, fun H enc w base spare held fuel cs x h => ?_⟩
  have hl := opens_len Try.underlying62 h
  have hl' : cs.length = 5 := hl.trans (by kernel_rfl)
  obtain ⟨_, n0, h0, b0⟩ := opens_field Try.underlying62 h (j := 0) rfl o_int
  obtain ⟨_, n1, h1, b1⟩ := opens_field Try.underlying62 h (j := 1) rfl o_int
  obtain ⟨_, n2, h2, b2⟩ := opens_field Try.underlying62 h (j := 2) rfl o_int
  obtain ⟨_, n3, h3, b3⟩ := opens_field Try.underlying62 h (j := 3) rfl o_int
  obtain ⟨_, n4, h4, b4⟩ := opens_field Try.underlying62 h (j := 4) rfl o_int
  have e0 := take1_at h0
  have e1 := take1_at h1
  have e2 := take1_at h2
  have e3 := take1_at h3
  have e4 := take1_at h4
  refine ⟨hl', n0, n1, n2, n3, n4, ?_, b0, b1, b2, b3, b4⟩
  match cs, hl' with
  | [c0, c1, c2, c3, c4], _ => simp at e0 e1 e2 e3 e4; subst e0 e1 e2 e3 e4; rfl
/-- a call of a store as it lies in memory -/
structure CallV where
  kind : Int
  id : Int
  gr : Int
  co : Int
  lo : Int
  ma : Int
  wi : Int
  le : Int
  A : Option Addr
  n : Nat
  c : Nat
  ng : Int
  nq : Int
  nw : Int
  nl : Int
  nk : Int
  day : Int
  cid : Int
  what : Int
def CallV.enc (x : CallV) : List Value := [.int .i64 x.kind, .int .i64 x.id, .int .i64 x.gr, .int .i64 x.co, .int .i64 x.lo, .int .i64 x.ma, .int .i64 x.wi, .int .i64 x.le, .slice x.A x.n x.c, .int .i64 x.ng, .int .i64 x.nq, .int .i64 x.nw, .int .i64 x.nl, .int .i64 x.nk, .int .i64 x.day, .int .i64 x.cid, .int .i64 x.what]
/-- its numbers are within their kind, and its faults can be read -/
structure CallIn (w : World) (x : CallV) : Prop where
  kind : I64 x.kind
  id : I64 x.id
  gr : I64 x.gr
  co : I64 x.co
  lo : I64 x.lo
  ma : I64 x.ma
  wi : I64 x.wi
  le : I64 x.le
  ng : I64 x.ng
  nq : I64 x.nq
  nw : I64 x.nw
  nl : I64 x.nl
  nk : I64 x.nk
  day : I64 x.day
  cid : I64 x.cid
  what : I64 x.what
  fs : ∃ fs : List Pt, fs.length = x.n ∧ fs.length ≤ maxLen ∧ Slc Pt.enc 2 w w.heap.size x.A fs ∧ ∀ (i : Nat) p, fs[i]? = some p → PtOk w p
set_option maxRecDepth 100000 in
theorem o_call : Opens Try.prog 64 17 (fun w cs => ∃ x : CallV, cs = x.enc ∧ CallIn w x) := by
  refine ⟨by kernel_rfl, fun H enc w base spare held fuel cs x h => ?_⟩
  have hl := opens_len Try.underlying64 h
  have hl' : cs.length = 17 := hl.trans (by kernel_rfl)
  obtain ⟨_, n0, h0, b0⟩ := opens_field Try.underlying64 h (j := 0) rfl o_int
  obtain ⟨_, id, gr, co, lo, ma, wi, le, A, c, fs, h1, ⟨b1, b2, b3, b4, b5, b6, b7⟩, hf⟩ := opens_field Try.underlying64 h (j := 1) rfl o_roll
  obtain ⟨_, g, q, x, l, k, h2, c1, c2, c3, c4, c5⟩ := opens_field Try.underlying64 h (j := 2) rfl o_need
  obtain ⟨_, n3, h3, d3⟩ := opens_field Try.underlying64 h (j := 3) rfl o_int
  obtain ⟨_, n4, h4, d4⟩ := opens_field Try.underlying64 h (j := 4) rfl o_int
  obtain ⟨_, n5, h5, d5⟩ := opens_field Try.underlying64 h (j := 5) rfl o_int
  have h0' : (cs.drop 0).take 1 = _ := h0
  have h1' : (cs.drop 1).take 8 = _ := h1
  have h2' : (cs.drop 9).take 5 = _ := h2
  have h3' : (cs.drop 14).take 1 = _ := h3
  have h4' : (cs.drop 15).take 1 = _ := h4
  have h5' : (cs.drop 16).take 1 = _ := h5
  have e : cs = (cs.drop 0).take 1 ++ ((cs.drop 1).take 8 ++ ((cs.drop 9).take 5 ++ ((cs.drop 14).take 1 ++ ((cs.drop 15).take 1 ++ (cs.drop 16).take 1)))) := by
    have a1 : (cs.drop 16).take 1 = cs.drop 16 := List.take_of_length_le (by rw [List.length_drop]; omega)
    rw [a1, ← split_at cs 15 1, ← split_at cs 14 1, ← split_at cs 9 5, ← split_at cs 1 8, ← split_at cs 0 1, List.drop_zero]
  rw [h0', h1', h2', h3', h4', h5'] at e
  exact ⟨hl', ⟨n0, id, gr, co, lo, ma, wi, le, A, fs.length, c, g, q, x, l, k, n3, n4, n5⟩, e, ⟨b0, b1, b2, b3, b4, b5, b6, b7, c1, c2, c3, c4, c5, d3, d4, d5, ⟨fs, rfl, hf⟩⟩⟩
theorem o_calls : Opens Try.prog 37 1 (IsSlc CallV.enc 17 CallIn) :=
  (opens_slice Try.underlying37 (by kernel_rfl) (by omega) o_call).imp fun w cs h => h.slc fun _ _ h => h
end Go.Proofs.Ytnejacogflkmmaa
