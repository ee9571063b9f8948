/- Parts of the proofs of this seat: OpenShop. Each part says what it proves; no condition beyond those stated there. -/
import Derived.Test.YtcpnfcnobnjhdaaB2
import Derived.Test.YtcpnfcnobnjhdaaB5

/- Openers of the types of shop's statements. -/
namespace Go.Proofs.Ytcpnfcnobnjhdaa
open Go.RowKit Go.ChangeShapes Go.WideShapes

def I64 (n : Int) : Prop := -9223372036854775808 ≤ n ∧ n ≤ 9223372036854775807
theorem o_int : Opens Try.prog 3 1 (fun _ cs => ∃ n, cs = [.int .i64 n] ∧ I64 n) := (opens_int Try.underlying3 (by kernel_rfl)).imp fun _ _ ⟨n, h, hw⟩ => ⟨n, h, bounds_i64 hw⟩
theorem o_ints : Opens Try.prog 22 1 (IsSlc intEnc 1 fun _ n => I64 n) :=
  (opens_slice Try.underlying22 (by kernel_rfl) (by omega) o_int).imp fun w cs h => h.slc fun _ _ h => h
theorem o_step : Opens Try.prog 69 4 (fun _ cs => ∃ x : Step, cs = x.enc) := by
  refine ⟨by kernel_rfl, fun H enc w base spare held fuel cs x h => ?_⟩
  have hl := opens_len Try.underlying69 h
  have hl' : cs.length = 4 := hl.trans (by kernel_rfl)
  obtain ⟨_, a, h0, b0⟩ := opens_field Try.underlying69 h (j := 0) rfl o_int
  obtain ⟨_, b, h1, b1⟩ := opens_field Try.underlying69 h (j := 1) rfl o_int
  obtain ⟨_, c, h2, b2⟩ := opens_field Try.underlying69 h (j := 2) rfl o_int
  obtain ⟨_, d, h3, b3⟩ := opens_field Try.underlying69 h (j := 3) rfl o_int
  have e0 := take1_at h0
  have e1 := take1_at h1
  have e2 := take1_at h2
  have e3 := take1_at h3
  refine ⟨hl', ⟨a, b, c, d⟩, ?_⟩
  match cs, hl' with
  | [c0, c1, c2, c3], _ => simp at e0 e1 e2 e3; subst e0 e1 e2 e3; rfl
theorem o_steps : Opens Try.prog 65 1 (IsSlc Step.enc 4 fun _ _ => True) :=
  (opens_slice Try.underlying65 (by kernel_rfl) (by omega) o_step).imp fun w cs h => h.slc fun _ _ ⟨x, hx⟩ => ⟨x, hx, trivial⟩
def IsWork (w : World) (cs : List Value) : Prop := ∃ A c, ∃ l : List Step, cs = [.slice A l.length c] ∧ l.length ≤ maxLen ∧ Slc Step.enc 4 w w.heap.size A l
theorem o_work : Opens Try.prog 67 1 IsWork := by
  refine ⟨by kernel_rfl, fun H enc w base spare held fuel cs x h => ?_⟩
  have hl := opens_len Try.underlying67 h
  have hl' : cs.length = 1 := hl.trans (by kernel_rfl)
  obtain ⟨_, A, c, l, h0, b0, b1, _⟩ := opens_field Try.underlying67 h (j := 0) rfl o_steps
  have e0 := take1_at h0
  refine ⟨hl', A, c, l, ?_, b0, b1⟩
  match cs, hl' with
  | [c0], _ => simp at e0; subst e0; rfl
/-- a list of jobs' cells -/
def IsJobs (w : World) (cs : List Value) : Prop := ∃ A c, ∃ js : List (List Step), cs = [.slice A js.length c] ∧ js.length ≤ maxLen ∧ Jobs w w.heap.size A js ∧ ∀ l ∈ js, l.length ≤ maxLen
theorem o_jobs : Opens Try.prog 23 1 IsJobs := by
  refine (opens_slice Try.underlying23 (by kernel_rfl) (by omega) o_work).imp fun w cs h => ?_
  obtain ⟨A, len, cap, rfl, hl, hi⟩ := h
  obtain ⟨js, hx, hp⟩ := list_of (fun i (l : List Step) => l.length ≤ maxLen ∧ ∃ b off A' c', A = some ⟨b, off, none⟩ ∧ b < w.heap.size ∧ w.cell? ⟨b, off + i, none⟩ = some (.slice A' l.length c') ∧ Slc Step.enc 4 w w.heap.size A' l) len fun i hil => by
    obtain ⟨vs, ⟨b, off, hA, hb, hc⟩, A', c', l, rfl, hl, hS⟩ := hi i hil
    exact ⟨l, hl, b, off, A', c', hA, hb, by simpa using hc 0 _ rfl, hS⟩
  subst hx
  refine ⟨A, cap, js, rfl, hl, fun i l hli => (hp i l hli).2, fun l hl => ?_⟩
  obtain ⟨i, hi⟩ := List.getElem?_of_mem hl
  exact (hp i l hi).1
/-- a shop's cells -/
def IsShop (w : World) (cs : List Value) : Prop := ∃ s : Sh, cs = [.int .i64 s.p.op, .int .i64 s.p.cl, .slice s.aH s.p.hol.length s.cH, .int .i64 s.p.mach, .slice s.aS s.p.setup.length s.cS, .slice s.aJ s.p.jobs.length s.cJ] ∧ ShAt w w.heap.size s ∧ Fits s.p ∧ I64 s.p.op ∧ I64 s.p.cl ∧ I64 s.p.mach
theorem o_shop : Opens Try.prog 25 6 IsShop := by
  refine ⟨by kernel_rfl, fun H enc w base spare held fuel cs x h => ?_⟩
  have hl := opens_len Try.underlying25 h
  have hl' : cs.length = 6 := hl.trans (by kernel_rfl)
  obtain ⟨_, op, h0, b0⟩ := opens_field Try.underlying25 h (j := 0) rfl o_int
  obtain ⟨_, cl, h1, b1⟩ := opens_field Try.underlying25 h (j := 1) rfl o_int
  obtain ⟨_, aH, cH, hol, h2, m2, S2, _⟩ := opens_field Try.underlying25 h (j := 2) rfl o_ints
  obtain ⟨_, mach, h3, b3⟩ := opens_field Try.underlying25 h (j := 3) rfl o_int
  obtain ⟨_, aS, cS, setup, h4, m4, S4, _⟩ := opens_field Try.underlying25 h (j := 4) rfl o_ints
  obtain ⟨_, aJ, cJ, jobs, h5, m5, S5, M5⟩ := opens_field Try.underlying25 h (j := 5) rfl o_jobs
  have e0 := take1_at h0
  have e1 := take1_at h1
  have e2 := take1_at h2
  have e3 := take1_at h3
  have e4 := take1_at h4
  have e5 := take1_at h5
  refine ⟨hl', ⟨⟨op, cl, mach, hol, setup, jobs⟩, aH, cH, aS, cS, aJ, cJ⟩, ?_, ⟨S2, S4, S5⟩, ⟨m2, m4, m5, M5⟩, b0, b1, b3⟩
  match cs, hl' with
  | [c0, c1, c2, c3, c4, c5], _ => simp at e0 e1 e2 e3 e4 e5; subst e0 e1 e2 e3 e4 e5; rfl
end Go.Proofs.Ytcpnfcnobnjhdaa
