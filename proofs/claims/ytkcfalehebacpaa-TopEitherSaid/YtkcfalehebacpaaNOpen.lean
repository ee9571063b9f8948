/- Openers of the types of night's statements. -/
import Derived.Test.YtkcfalehebacpaaOpen
import Derived.Test.YtkcfalehebacpaaNightP
namespace Go.Proofs.Ytkcfalehebacpaa
open Go.RowKit Go.ChangeShapes Go.WideShapes
def I64 (n : Int) : Prop := -9223372036854775808 ≤ n ∧ n ≤ 9223372036854775807
theorem o_int : Opens Try.prog 3 1 (fun _ cs => ∃ n, cs = [.int .i64 n] ∧ I64 n) := (opens_int Try.underlying3 (by kernel_rfl)).imp fun _ _ ⟨n, h, hw⟩ => ⟨n, h, bounds_i64 hw⟩
theorem o_bool : Opens Try.prog 4 1 IsBool := opens_bool Try.underlying4 (by kernel_rfl)
theorem o_ints : Opens Try.prog 26 1 (IsSlc intEnc 1 fun _ n => I64 n) :=
  (opens_slice Try.underlying26 (by kernel_rfl) (by omega) o_int).imp fun w cs h => h.slc fun _ _ h => h
theorem o_job : Opens Try.prog 67 8 (fun _ cs => ∃ x : Job, cs = [.int .i64 x.n, .int .i64 x.road, .int .i64 x.chain, .int .i64 x.first, .int .i64 x.last, .int .i64 x.crew, .bool x.dry, .bool x.warm]) := by
  refine ⟨by kernel_rfl, fun H enc w base spare held fuel cs x h => ?_⟩
  have hl := opens_len Try.underlying67 h
  have hl' : cs.length = 8 := hl.trans (by kernel_rfl)
  obtain ⟨_, a0, h0, b0⟩ := opens_field Try.underlying67 h (j := 0) rfl o_int
  obtain ⟨_, a1, h1, b1⟩ := opens_field Try.underlying67 h (j := 1) rfl o_int
  obtain ⟨_, a2, h2, b2⟩ := opens_field Try.underlying67 h (j := 2) rfl o_int
  obtain ⟨_, a3, h3, b3⟩ := opens_field Try.underlying67 h (j := 3) rfl o_int
  obtain ⟨_, a4, h4, b4⟩ := opens_field Try.underlying67 h (j := 4) rfl o_int
  obtain ⟨_, a5, h5, b5⟩ := opens_field Try.underlying67 h (j := 5) rfl o_int
  obtain ⟨_, a6, h6⟩ := opens_field Try.underlying67 h (j := 6) rfl o_bool
  obtain ⟨_, a7, h7⟩ := opens_field Try.underlying67 h (j := 7) rfl o_bool
  have e0 := take1_at h0
  have e1 := take1_at h1
  have e2 := take1_at h2
  have e3 := take1_at h3
  have e4 := take1_at h4
  have e5 := take1_at h5
  have e6 := take1_at h6
  have e7 := take1_at h7
  refine ⟨hl', ⟨a0, a1, a2, a3, a4, a5, a6, a7⟩, ?_⟩
  match cs, hl' with
  | [c0, c1, c2, c3, c4, c5, c6, c7], _ => simp at e0 e1 e2 e3 e4 e5 e6 e7; subst e0 e1 e2 e3 e4 e5 e6 e7; rfl
theorem o_nit : Opens Try.prog 69 8 (fun _ cs => ∃ x : Nit, cs = [.int .i64 x.day, .int .i64 x.road, .int .i64 x.lo, .int .i64 x.hi, .int .i64 x.crew, .int .i64 x.pl, .bool x.rain, .bool x.frost]) := by
  refine ⟨by kernel_rfl, fun H enc w base spare held fuel cs x h => ?_⟩
  have hl := opens_len Try.underlying69 h
  have hl' : cs.length = 8 := hl.trans (by kernel_rfl)
  obtain ⟨_, a0, h0, b0⟩ := opens_field Try.underlying69 h (j := 0) rfl o_int
  obtain ⟨_, a1, h1, b1⟩ := opens_field Try.underlying69 h (j := 1) rfl o_int
  obtain ⟨_, a2, h2, b2⟩ := opens_field Try.underlying69 h (j := 2) rfl o_int
  obtain ⟨_, a3, h3, b3⟩ := opens_field Try.underlying69 h (j := 3) rfl o_int
  obtain ⟨_, a4, h4, b4⟩ := opens_field Try.underlying69 h (j := 4) rfl o_int
  obtain ⟨_, a5, h5, b5⟩ := opens_field Try.underlying69 h (j := 5) rfl o_int
  obtain ⟨_, a6, h6⟩ := opens_field Try.underlying69 h (j := 6) rfl o_bool
  obtain ⟨_, a7, h7⟩ := opens_field Try.underlying69 h (j := 7) rfl o_bool
  have e0 := take1_at h0
  have e1 := take1_at h1
  have e2 := take1_at h2
  have e3 := take1_at h3
  have e4 := take1_at h4
  have e5 := take1_at h5
  have e6 := take1_at h6
  have e7 := take1_at h7
  refine ⟨hl', ⟨a0, a1, a2, a3, a4, a5, a6, a7⟩, ?_⟩
  match cs, hl' with
  | [c0, c1, c2, c3, c4, c5, c6, c7], _ => simp at e0 e1 e2 e3 e4 e5 e6 e7; subst e0 e1 e2 e3 e4 e5 e6 e7; rfl
theorem o_jobs : Opens Try.prog 22 1 (IsSlc Job.enc 8 fun _ _ => True) :=
  (opens_slice Try.underlying22 (by kernel_rfl) (by omega) o_job).imp fun w cs h => h.slc fun _ _ ⟨x, hx⟩ => ⟨x, hx, trivial⟩
theorem o_nits : Opens Try.prog 23 1 (IsSlc Nit.enc 8 fun _ _ => True) :=
  (opens_slice Try.underlying23 (by kernel_rfl) (by omega) o_nit).imp fun w cs h => h.slc fun _ _ ⟨x, hx⟩ => ⟨x, hx, trivial⟩
/-- jobs and nights as an argument -/
structure Sea where
  js : List Job
  ns : List Nit
  aJ : Option Addr
  cJ : Nat
  aN : Option Addr
  cN : Nat
structure SeaAt (w : World) (s : Sea) : Prop where
  jobs : Slc Job.enc 8 w w.heap.size s.aJ s.js
  nights : Slc Nit.enc 8 w w.heap.size s.aN s.ns
  lj : s.js.length ≤ maxLen
  ln : s.ns.length ≤ maxLen
def IsSea (w : World) (cs : List Value) : Prop := ∃ s : Sea, cs = [.slice s.aJ s.js.length s.cJ, .slice s.aN s.ns.length s.cN] ∧ SeaAt w s
theorem o_sea : Opens Try.prog 25 2 IsSea := by
  refine ⟨by kernel_rfl, fun H enc w base spare held fuel cs x h => ?_⟩
  have hl := opens_len Try.underlying25 h
  have hl' : cs.length = 2 := hl.trans (by kernel_rfl)
  obtain ⟨_, A, c, js, h0, b0, S0, _⟩ := opens_field Try.underlying25 h (j := 0) rfl o_jobs
  obtain ⟨_, A', c', ns, h1, b1, S1, _⟩ := opens_field Try.underlying25 h (j := 1) rfl o_nits
  have e0 := take1_at h0
  have e1 := take1_at h1
  refine ⟨hl', ⟨js, ns, A, c, A', c'⟩, ?_, S0, S1, b0, b1⟩
  match cs, hl' with
  | [c0, c1], _ => simp at e0 e1; subst e0 e1; rfl
end Go.Proofs.Ytkcfalehebacpaa
