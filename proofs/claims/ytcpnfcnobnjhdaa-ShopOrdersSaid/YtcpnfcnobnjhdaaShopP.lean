/- The shop: plain definitions, and what a shop in memory is. -/
import Derived.Test.YtcpnfcnobnjhdaaLib
namespace Go.Proofs.Ytcpnfcnobnjhdaa
structure Step where
  m : Int
  mi : Int
  c : Int
  d : Int
structure Shop where
  op : Int
  cl : Int
  mach : Int
  hol : List Int
  setup : List Int
  jobs : List (List Step)
/-- a shop with where its lists lie -/
structure Sh where
  p : Shop
  aH : Option Addr
  cH : Nat
  aS : Option Addr
  cS : Nat
  aJ : Option Addr
  cJ : Nat
def Step.enc (x : Step) : List Value := [.int .i64 x.m, .int .i64 x.mi, .int .i64 x.c, .int .i64 x.d]
def Jobs (w : World) (B : Nat) (A : Option Addr) (js : List (List Step)) : Prop :=
  ∀ (i : Nat) l, js[i]? = some l → ∃ b off A' c', A = some ⟨b, off, none⟩ ∧ b < B ∧ w.cell? ⟨b, off + i, none⟩ = some (.slice A' l.length c') ∧ Slc Step.enc 4 w B A' l
theorem Jobs.keep {w w' : World} {B : Nat} {A : Option Addr} {js : List (List Step)} (h : Jobs w B A js) (hk : ∀ p : Addr, p.block < B → w'.cell? p = w.cell? p) : Jobs w' B A js := fun i l hl => by
  obtain ⟨b, off, A', c', hA, hb, hc, hS⟩ := h i l hl
  exact ⟨b, off, A', c', hA, hb, (hk _ hb).trans hc, hS.keep hk⟩
theorem Jobs.more {w : World} {B B' : Nat} {A : Option Addr} {js : List (List Step)} (h : Jobs w B A js) (hB : B ≤ B') : Jobs w B' A js := fun i l hl => by
  obtain ⟨b, off, A', c', hA, hb, hc, hS⟩ := h i l hl
  exact ⟨b, off, A', c', hA, by omega, hc, hS.more hB⟩
structure ShAt (w : World) (B : Nat) (s : Sh) : Prop where
  hol : Slc intEnc 1 w B s.aH s.p.hol
  setup : Slc intEnc 1 w B s.aS s.p.setup
  jobs : Jobs w B s.aJ s.p.jobs
theorem ShAt.below {w w' : World} {B : Nat} {s : Sh} (h : ShAt w B s) (hb : Go.RowKit.Below B w w') : ShAt w' B s :=
  ⟨h.hol.below hb, h.setup.below hb, h.jobs.keep fun _ hp => hb.cell hp⟩
theorem ShAt.more {w : World} {B B' : Nat} {s : Sh} (h : ShAt w B s) (hB : B ≤ B') : ShAt w B' s := ⟨h.hol.more hB, h.setup.more hB, h.jobs.more hB⟩
/-- .. in a later world, with all of its blocks -/
theorem ShAt.on {w w' : World} {s : Sh} (h : ShAt w w.heap.size s) (hb : Go.RowKit.Below w.heap.size w w') : ShAt w' w'.heap.size s := (h.below hb).more hb.size
theorem steps_at {w : World} {B : Nat} {A : Option Addr} {xs : List Step} {k : Nat} (h : Slc Step.enc 4 w B A xs) (hk : k < xs.length) :
    ∃ x b off, xs[k]? = some x ∧ A = some ⟨b, off, none⟩ ∧ b < B ∧ w.cell? ⟨b, off + k * 4, none⟩ = some (.int .i64 x.m) ∧ w.cell? ⟨b, off + k * 4 + 1, none⟩ = some (.int .i64 x.mi) ∧ w.cell? ⟨b, off + k * 4 + 2, none⟩ = some (.int .i64 x.c) ∧ w.cell? ⟨b, off + k * 4 + 3, none⟩ = some (.int .i64 x.d) := by
  have hx : xs[k]? = some xs[k] := List.getElem?_eq_getElem hk
  obtain ⟨b, off, ha, hb, hc⟩ := h k _ hx
  exact ⟨xs[k], b, off, hx, ha, hb, by simpa using hc 0 _ rfl, hc 1 _ rfl, hc 2 _ rfl, hc 3 _ rfl⟩
theorem jobs_at {w : World} {B : Nat} {A : Option Addr} {js : List (List Step)} {k : Nat} (h : Jobs w B A js) (hk : k < js.length) :
    ∃ l b off A' c', js[k]? = some l ∧ A = some ⟨b, off, none⟩ ∧ b < B ∧ w.cell? ⟨b, off + k, none⟩ = some (.slice A' l.length c') ∧ Slc Step.enc 4 w B A' l := by
  have hx : js[k]? = some js[k] := List.getElem?_eq_getElem hk
  obtain ⟨b, off, A', c', h1⟩ := h k _ hx
  exact ⟨js[k], b, off, A', c', hx, h1⟩

def inB (a n b : Int) : Bool := decide (a ≤ n) && decide (n ≤ b)
theorem inB_iff {a n b : Int} : inB a n b = true ↔ a ≤ n ∧ n ≤ b := by simp [inB]
theorem inB_false {a n b : Int} : inB a n b = false ↔ n < a ∨ b < n := by simp [inB]; omega
def holsOk : Int → List Int → Bool
  | _, [] => true
  | prev, d :: r => inB 0 d 10000 && decide (prev < d) && holsOk d r
def stepOk (p : Shop) (x : Step) : Bool := inB 0 x.m (p.mach - 1) && inB 1 x.mi (p.cl - p.op) && inB 0 x.c 9 && inB 0 x.d 10000
def jobOk (p : Shop) (l : List Step) : Bool := decide (l.length ≤ 8) && l.all (stepOk p)
def headOk (p : Shop) : Bool := decide (0 ≤ p.op) && decide (p.op < p.cl) && decide (p.cl ≤ 1440) && decide (p.hol.length ≤ 400) && inB 1 p.mach 6 && decide ((p.setup.length : Int) = p.mach) && decide (p.jobs.length ≤ 12)
def validShop (p : Shop) : Bool := headOk p && holsOk (-1) p.hol && p.setup.all (fun n => inB 0 n 1000) && p.jobs.all (jobOk p)
def longB (p : Shop) : Bool := decide (500 < p.hol.length) || decide (20 < p.setup.length) || decide (30 < p.jobs.length) || p.jobs.any fun l => decide (20 < l.length)
theorem holsOk_step {prev d : Int} {l : List Int} {k : Nat} (hk : l[k]? = some d) : holsOk prev (l.drop k) = (inB 0 d 10000 && decide (prev < d) && holsOk d (l.drop (k + 1))) := by
  obtain ⟨hl, hf⟩ := List.getElem?_eq_some_iff.1 hk
  rw [List.drop_eq_getElem_cons hl, hf]; rfl
theorem all_drop {α : Type} {f : α → Bool} {l : List α} {k : Nat} {x : α} (hk : l[k]? = some x) : (l.drop k).all f = (f x && (l.drop (k + 1)).all f) := by
  obtain ⟨hl, hf⟩ := List.getElem?_eq_some_iff.1 hk
  rw [List.drop_eq_getElem_cons hl, hf]; rfl
theorem any_drop {α : Type} {f : α → Bool} {l : List α} {k : Nat} {x : α} (hk : l[k]? = some x) : (l.drop k).any f = (f x || (l.drop (k + 1)).any f) := by
  obtain ⟨hl, hf⟩ := List.getElem?_eq_some_iff.1 hk
  rw [List.drop_eq_getElem_cons hl, hf]; rfl
theorem nomore {α : Type} (l : List α) : l.drop l.length = [] := by simp
end Go.Proofs.Ytcpnfcnobnjhdaa
