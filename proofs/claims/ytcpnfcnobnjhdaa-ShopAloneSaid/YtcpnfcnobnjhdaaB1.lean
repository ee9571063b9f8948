/- Parts of the proofs of this seat: Lib, ShopP, Chg. Each part says what it proves; no condition beyond those stated there. -/
import Derived.WalkKit
import Derived.Below
import Derived.Laws.OwnMore
import Derived.Laws.Rows

/- Words on memory that all walks of this seat share: slices whose elements take a fixed number of cells. -/
namespace Go.Proofs.Ytcpnfcnobnjhdaa
open Go.RowKit

theorem hide {p : Prop} (h : p) : Hid p := h

/-- Element i of a slice whose elements take 'sz' cells reads as the cells 'vs', and lies below block B. -/
def RowAt (w : World) (B : Nat) (A : Option Addr) (sz i : Nat) (vs : List Value) : Prop :=
  ∃ b off, A = some ⟨b, off, none⟩ ∧ b < B ∧ ∀ j v, vs[j]? = some v → w.cell? ⟨b, off + i * sz + j, none⟩ = some v

theorem RowAt.keep {w w' : World} {B : Nat} {A : Option Addr} {sz i : Nat} {vs : List Value} (h : RowAt w B A sz i vs) (hk : ∀ p : Addr, p.block < B → w'.cell? p = w.cell? p) : RowAt w' B A sz i vs := by
  obtain ⟨b, off, rfl, hb, hc⟩ := h
  exact ⟨b, off, rfl, hb, fun j v hv => (hk _ hb).trans (hc j v hv)⟩

theorem RowAt.more {w : World} {B B' : Nat} {A : Option Addr} {sz i : Nat} {vs : List Value} (h : RowAt w B A sz i vs) (hB : B ≤ B') : RowAt w B' A sz i vs := by
  obtain ⟨b, off, rfl, hb, hc⟩ := h
  exact ⟨b, off, rfl, Nat.lt_of_lt_of_le hb hB, hc⟩

/-- A slice whose elements are told by 'enc'. -/
def Slc {α : Type} (enc : α → List Value) (sz : Nat) (w : World) (B : Nat) (A : Option Addr) (xs : List α) : Prop :=
  ∀ i x, xs[i]? = some x → RowAt w B A sz i (enc x)

section
variable {α : Type} {enc : α → List Value} {sz : Nat} {w w' : World} {B B' : Nat} {A : Option Addr} {xs : List α}
theorem Slc.nil_ : Slc enc sz w B A ([] : List α) := fun i x h => by simp at h
theorem Slc.keep (h : Slc enc sz w B A xs) (hk : ∀ p : Addr, p.block < B → w'.cell? p = w.cell? p) : Slc enc sz w' B A xs := fun i x hx => (h i x hx).keep hk
theorem Slc.below (h : Slc enc sz w B A xs) (hb : Below B w w') : Slc enc sz w' B A xs := h.keep fun _ hp => hb.cell hp
theorem Slc.more (h : Slc enc sz w B A xs) (hB : B ≤ B') : Slc enc sz w B' A xs := fun i x hx => (h i x hx).more hB
theorem Slc.at1 {k : Nat} {x : α} {v : Value} (h : Slc enc 1 w B A xs) (hk : xs[k]? = some x) (he : enc x = [v]) :
    ∃ b off, A = some ⟨b, off, none⟩ ∧ b < B ∧ w.cell? ⟨b, off + k, none⟩ = some v := by
  obtain ⟨b, off, ha, hb, hc⟩ := h k x hk
  exact ⟨b, off, ha, hb, by simpa using hc 0 v (by rw [he]; rfl)⟩
theorem Slc.at2 {k : Nat} {x : α} {v0 v1 : Value} (h : Slc enc 2 w B A xs) (hk : xs[k]? = some x) (he : enc x = [v0, v1]) :
    ∃ b off, A = some ⟨b, off, none⟩ ∧ b < B ∧ w.cell? ⟨b, off + k * 2, none⟩ = some v0 ∧ w.cell? ⟨b, off + k * 2 + 1, none⟩ = some v1 := by
  obtain ⟨b, off, ha, hb, hc⟩ := h k x hk
  exact ⟨b, off, ha, hb, by simpa using hc 0 v0 (by rw [he]; rfl), hc 1 v1 (by rw [he]; rfl)⟩
end

/-- A block that is known whole, none of its cells frozen. -/
def Blk (w : World) (g : Nat) (t : TypeId) (cs : Array Value) : Prop := w.heap[g]? = some (.cells cs t (0, 0))

section
variable {w w' : World} {g : Nat} {t : TypeId} {cs : Array Value}
theorem Blk.lt (h : Blk w g t cs) : g < w.heap.size := by
  rcases Nat.lt_or_ge g w.heap.size with hlt | hge
  · exact hlt
  · unfold Blk at h; rw [Array.getElem?_eq_none hge] at h; cases h
theorem Blk.cell (h : Blk w g t cs) (i : Nat) : w.cell? ⟨g, i, none⟩ = cs[i]? := cell_of_row w g i cs t (0, 0) h
theorem Blk.cell_ (h : Blk w g t cs) (i : Nat) {v : Value} (hv : cs[i]? = some v) : w.cell? ⟨g, i, none⟩ = some v := (h.cell i).trans hv
theorem Blk.frozen (h : Blk w g t cs) (i : Nat) : w.frozen? ⟨g, i, none⟩ = false := by
  unfold Blk at h
  simp [World.frozen?, h]
theorem Blk.new (w : World) (t : TypeId) (cs : Array Value) : Blk (w.alloc (.cells cs t)) w.heap.size t cs := heap_alloc_new w _
theorem Blk.drew (h : Blk w g t cs) : Blk w.drew g t cs := h
theorem Blk.alloc (h : Blk w g t cs) (o : Obj) : Blk (w.alloc o) g t cs := (Below.heap_alloc w o g h.lt).trans h
theorem Blk.set_ (h : Blk w g t cs) (i : Nat) (u : Value) : Blk (w.setCell ⟨g, i, none⟩ u) g t (cs.setIfInBounds i u) := by
  unfold Blk at h ⊢
  simp [World.setCell, Array.getElem?_modify, h]
theorem Blk.far (h : Blk w g t cs) {p : Addr} (hp : g ≠ p.block) (u : Value) : Blk (w.setCell p u) g t cs := (Below.heap_setCell w p u g hp).trans h
theorem Blk.below {B : Nat} (h : Blk w g t cs) (hb : Below B w w') (hg : g < B) : Blk w' g t cs := (hb.block g hg).trans h
theorem Blk.grown {row : Option Nat} (h : Blk w g t cs) (hb : w.grownBy w' row) (hg : some g ≠ row) : Blk w' g t cs := (hb.block g h.lt hg).trans h
theorem Blk.ne_ {g' : Nat} {t' : TypeId} {cs' : Array Value} (h : Blk w g t cs) (h' : Blk w g' t' cs') (hne : t ≠ t') : g ≠ g' := by
  rintro rfl
  unfold Blk at h h'
  rw [h] at h'
  injection h' with h'
  injection h' with _ ht
  exact hne ht
end

theorem ret_int {k : IntKind} {a b : Int} (h : a = b) : Ending.returned (.int k a) = .returned (.int k b) := by rw [h]
theorem ret_bool {a b : Bool} (h : a = b) : Ending.returned (.bool a) = .returned (.bool b) := by rw [h]

theorem ret_pair {k k' : IntKind} {a b : Int} {c d : Int} (h : a = b) (h' : c = d) : Ending.returned (.tuple #[.int k a, .int k' c]) = .returned (.tuple #[.int k b, .int k' d]) := by rw [h, h']
theorem ret_ib {k : IntKind} {a b : Int} {c d : Bool} (h : a = b) (h' : c = d) : Ending.returned (.tuple #[.int k a, .bool c]) = .returned (.tuple #[.int k b, .bool d]) := by rw [h, h']

/-- Two ints. -/
structure Pt where
  a : Int
  b : Int
def Pt.enc (p : Pt) : List Value := [.int .i64 p.a, .int .i64 p.b]
theorem pts_at {w : World} {B : Nat} {A : Option Addr} {xs : List Pt} {k : Nat} (h : Slc Pt.enc 2 w B A xs) (hk : k < xs.length) :
    ∃ f t b off, xs[k]? = some ⟨f, t⟩ ∧ A = some ⟨b, off, none⟩ ∧ b < B ∧ w.cell? ⟨b, off + k * 2, none⟩ = some (.int .i64 f) ∧ w.cell? ⟨b, off + k * 2 + 1, none⟩ = some (.int .i64 t) := by
  have hx : xs[k]? = some xs[k] := List.getElem?_eq_getElem hk
  obtain ⟨b, off, ha, hb, h0, h1⟩ := h.at2 hx (v0 := .int .i64 xs[k].a) (v1 := .int .i64 xs[k].b) rfl
  exact ⟨xs[k].a, xs[k].b, b, off, hx, ha, hb, h0, h1⟩
def intEnc (n : Int) : List Value := [.int .i64 n]
theorem ints_at' {w : World} {B : Nat} {A : Option Addr} {xs : List Int} {k : Nat} (h : Slc intEnc 1 w B A xs) (hk : k < xs.length) :
    ∃ n b off, xs[k]? = some n ∧ A = some ⟨b, off, none⟩ ∧ b < B ∧ w.cell? ⟨b, off + k, none⟩ = some (.int .i64 n) := by
  have hx : xs[k]? = some xs[k] := List.getElem?_eq_getElem hk
  obtain ⟨b, off, ha, hb, h0⟩ := h.at1 hx (v := .int .i64 xs[k]) rfl
  exact ⟨xs[k], b, off, hx, ha, hb, h0⟩
end Go.Proofs.Ytcpnfcnobnjhdaa

/- The shop: plain definitions, and what a shop in memory is. -/
namespace Go.Proofs.Ytcpnfcnobnjhdaa
structure Step where
  m : Int
  mi : Int
  c : Int
  d : Int
structure Shop where
  op : Int
  cl : Int
  mach : Int
  hol : List Int
  setup : List Int
  jobs : List (List Step)
/-- a shop with where its lists lie -/
structure Sh where
  p : Shop
  aH : Option Addr
  cH : Nat
  aS : Option Addr
  cS : Nat
  aJ : Option Addr
  cJ : Nat
def Step.enc (x : Step) : List Value := [.int .i64 x.m, .int .i64 x.mi, .int .i64 x.c, .int .i64 x.d]
def Jobs (w : World) (B : Nat) (A : Option Addr) (js : List (List Step)) : Prop :=
  ∀ (i : Nat) l, js[i]? = some l → ∃ b off A' c', A = some ⟨b, off, none⟩ ∧ b < B ∧ w.cell? ⟨b, off + i, none⟩ = some (.slice A' l.length c') ∧ Slc Step.enc 4 w B A' l
theorem Jobs.keep {w w' : World} {B : Nat} {A : Option Addr} {js : List (List Step)} (h : Jobs w B A js) (hk : ∀ p : Addr, p.block < B → w'.cell? p = w.cell? p) : Jobs w' B A js := fun i l hl => by
  obtain ⟨b, off, A', c', hA, hb, hc, hS⟩ := h i l hl
  exact ⟨b, off, A', c', hA, hb, (hk _ hb).trans hc, hS.keep hk⟩
theorem Jobs.more {w : World} {B B' : Nat} {A : Option Addr} {js : List (List Step)} (h : Jobs w B A js) (hB : B ≤ B') : Jobs w B' A js := fun i l hl => by
  obtain ⟨b, off, A', c', hA, hb, hc, hS⟩ := h i l hl
  exact ⟨b, off, A', c', hA, by omega, hc, hS.more hB⟩
structure ShAt (w : World) (B : Nat) (s : Sh) : Prop where
  hol : Slc intEnc 1 w B s.aH s.p.hol
  setup : Slc intEnc 1 w B s.aS s.p.setup
  jobs : Jobs w B s.aJ s.p.jobs
theorem ShAt.below {w w' : World} {B : Nat} {s : Sh} (h : ShAt w B s) (hb : Go.RowKit.Below B w w') : ShAt w' B s :=
  ⟨h.hol.below hb, h.setup.below hb, h.jobs.keep fun _ hp => hb.cell hp⟩
theorem ShAt.more {w : World} {B B' : Nat} {s : Sh} (h : ShAt w B s) (hB : B ≤ B') : ShAt w B' s := ⟨h.hol.more hB, h.setup.more hB, h.jobs.more hB⟩
/-- .. in a later world, with all of its blocks -/
theorem ShAt.on {w w' : World} {s : Sh} (h : ShAt w w.heap.size s) (hb : Go.RowKit.Below w.heap.size w w') : ShAt w' w'.heap.size s := (h.below hb).more hb.size
theorem steps_at {w : World} {B : Nat} {A : Option Addr} {xs : List Step} {k : Nat} (h : Slc Step.enc 4 w B A xs) (hk : k < xs.length) :
    ∃ x b off, xs[k]? = some x ∧ A = some ⟨b, off, none⟩ ∧ b < B ∧ w.cell? ⟨b, off + k * 4, none⟩ = some (.int .i64 x.m) ∧ w.cell? ⟨b, off + k * 4 + 1, none⟩ = some (.int .i64 x.mi) ∧ w.cell? ⟨b, off + k * 4 + 2, none⟩ = some (.int .i64 x.c) ∧ w.cell? ⟨b, off + k * 4 + 3, none⟩ = some (.int .i64 x.d) := by
  have hx : xs[k]? = some xs[k] := List.getElem?_eq_getElem hk
  obtain ⟨b, off, ha, hb, hc⟩ := h k _ hx
  exact ⟨xs[k], b, off, hx, ha, hb, by simpa using hc 0 _ rfl, hc 1 _ rfl, hc 2 _ rfl, hc 3 _ rfl⟩
theorem jobs_at {w : World} {B : Nat} {A : Option Addr} {js : List (List Step)} {k : Nat} (h : Jobs w B A js) (hk : k < js.length) :
    ∃ l b off A' c', js[k]? = some l ∧ A = some ⟨b, off, none⟩ ∧ b < B ∧ w.cell? ⟨b, off + k, none⟩ = some (.slice A' l.length c') ∧ Slc Step.enc 4 w B A' l := by
  have hx : js[k]? = some js[k] := List.getElem?_eq_getElem hk
  obtain ⟨b, off, A', c', h1⟩ := h k _ hx
  exact ⟨js[k], b, off, A', c', hx, h1⟩

def inB (a n b : Int) : Bool := decide (a ≤ n) && decide (n ≤ b)
theorem inB_iff {a n b : Int} : inB a n b = true ↔ a ≤ n ∧ n ≤ b := by simp [inB]
theorem inB_false {a n b : Int} : inB a n b = false ↔ n < a ∨ b < n := by simp [inB]; omega
def holsOk : Int → List Int → Bool
  | _, [] => true
  | prev, d :: r => inB 0 d 10000 && decide (prev < d) && holsOk d r
def stepOk (p : Shop) (x : Step) : Bool := inB 0 x.m (p.mach - 1) && inB 1 x.mi (p.cl - p.op) && inB 0 x.c 9 && inB 0 x.d 10000
def jobOk (p : Shop) (l : List Step) : Bool := decide (l.length ≤ 8) && l.all (stepOk p)
def headOk (p : Shop) : Bool := decide (0 ≤ p.op) && decide (p.op < p.cl) && decide (p.cl ≤ 1440) && decide (p.hol.length ≤ 400) && inB 1 p.mach 6 && decide ((p.setup.length : Int) = p.mach) && decide (p.jobs.length ≤ 12)
def validShop (p : Shop) : Bool := headOk p && holsOk (-1) p.hol && p.setup.all (fun n => inB 0 n 1000) && p.jobs.all (jobOk p)
def longB (p : Shop) : Bool := decide (500 < p.hol.length) || decide (20 < p.setup.length) || decide (30 < p.jobs.length) || p.jobs.any fun l => decide (20 < l.length)
theorem holsOk_step {prev d : Int} {l : List Int} {k : Nat} (hk : l[k]? = some d) : holsOk prev (l.drop k) = (inB 0 d 10000 && decide (prev < d) && holsOk d (l.drop (k + 1))) := by
  obtain ⟨hl, hf⟩ := List.getElem?_eq_some_iff.1 hk
  rw [List.drop_eq_getElem_cons hl, hf]; rfl
theorem all_drop {α : Type} {f : α → Bool} {l : List α} {k : Nat} {x : α} (hk : l[k]? = some x) : (l.drop k).all f = (f x && (l.drop (k + 1)).all f) := by
  obtain ⟨hl, hf⟩ := List.getElem?_eq_some_iff.1 hk
  rw [List.drop_eq_getElem_cons hl, hf]; rfl
theorem any_drop {α : Type} {f : α → Bool} {l : List α} {k : Nat} {x : α} (hk : l[k]? = some x) : (l.drop k).any f = (f x || (l.drop (k + 1)).any f) := by
  obtain ⟨hl, hf⟩ := List.getElem?_eq_some_iff.1 hk
  rw [List.drop_eq_getElem_cons hl, hf]; rfl
theorem nomore {α : Type} (l : List α) : l.drop l.length = [] := by simp
end Go.Proofs.Ytcpnfcnobnjhdaa

/- What a call has turned: blocks of a set, and new ones. -/
namespace Go.Proofs.Ytcpnfcnobnjhdaa
open Go.RowKit
structure Chg (S : Nat → Prop) (w w' : World) : Prop where
  os : w'.os = w.os
  tape : w'.tape = w.tape
  output : w'.output = w.output
  size : w.heap.size ≤ w'.heap.size
  block : ∀ k, k < w.heap.size → ¬ S k → w'.heap[k]? = w.heap[k]?
section
variable {S : Nat → Prop} {a b c w w' : World}
theorem Chg.refl (S : Nat → Prop) (w : World) : Chg S w w := ⟨rfl, rfl, rfl, Nat.le_refl _, fun _ _ _ => rfl⟩
theorem Chg.trans (h : Chg S a b) (k : Chg S b c) : Chg S a c :=
  ⟨k.os.trans h.os, k.tape.trans h.tape, k.output.trans h.output, Nat.le_trans h.size k.size, fun i hi hn => (k.block i (Nat.lt_of_lt_of_le hi h.size) hn).trans (h.block i hi hn)⟩
theorem Chg.mono {T : Nat → Prop} (h : Chg S a b) (hST : ∀ k, k < a.heap.size → S k → T k) : Chg T a b := ⟨h.os, h.tape, h.output, h.size, fun i hi hn => h.block i hi fun hs => hn (hST i hi hs)⟩
theorem Chg.trans' {T : Nat → Prop} (h : Chg S a b) (k : Chg T b c) (hT : ∀ i, i < a.heap.size → T i → S i) : Chg S a c :=
  ⟨k.os.trans h.os, k.tape.trans h.tape, k.output.trans h.output, Nat.le_trans h.size k.size, fun i hi hn => (k.block i (Nat.lt_of_lt_of_le hi h.size) fun ht => hn (hT i hi ht)).trans (h.block i hi hn)⟩
theorem Chg.of_below (h : Below a.heap.size a b) : Chg S a b := ⟨h.os, h.tape, h.output, h.size, fun i hi _ => h.block i hi⟩
theorem Chg.of_grown {r : Nat} (h : a.grownBy b (some r)) (hr : S r) : Chg S a b := ⟨h.os, h.tape, h.output, h.size, fun i hi hn => h.block i hi fun e => hn (by injection e with e; exact e ▸ hr)⟩
theorem Chg.to_below {B : Nat} (h : Chg S a b) (hB : B ≤ a.heap.size) (hS : ∀ k, k < B → ¬ S k) : Below B a b := ⟨h.os, h.tape, h.output, h.size, fun i hi => h.block i (by omega) (hS i hi)⟩
theorem Chg.drew (h : Chg S a b) : Chg S a b.drew := ⟨h.os, h.tape, h.output, h.size, h.block⟩
theorem Chg.alloc (h : Chg S a b) (o : Obj) : Chg S a (b.alloc o) := h.trans (.of_below ((Below.refl _ _).alloc (Nat.le_refl _) o))
theorem Chg.setCell (h : Chg S a b) {p : Addr} (hp : S p.block ∨ a.heap.size ≤ p.block) (u : Value) : Chg S a (b.setCell p u) :=
  ⟨h.os, h.tape, h.output, by simpa [World.setCell] using h.size, fun i hi hn => (Below.heap_setCell b p u i (by
    rintro rfl
    rcases hp with hp | hp
    · exact hn hp
    · omega)).trans (h.block i hi hn)⟩
end
theorem Blk.chg {S : Nat → Prop} {w w' : World} {b : Nat} {t : TypeId} {cs : Array Value} (h : Blk w b t cs) (hc : Chg S w w') (hn : ¬ S b) : Blk w' b t cs := (hc.block b h.lt hn).trans h
theorem Blk.chg1 {g : Nat} {w w' : World} {b : Nat} {t : TypeId} {cs : Array Value} (h : Blk w b t cs) (hc : Chg (fun k => k = g) w w') (hn : b ≠ g) : Blk w' b t cs := (hc.block b h.lt hn).trans h
theorem Chg.below1 {g B : Nat} {w w' : World} (hc : Chg (fun k => k = g) w w') (hB : B ≤ w.heap.size) (hg : B ≤ g) : Below B w w' := hc.to_below hB fun k hk he => by subst he; omega
theorem Chg.set1 {w : World} {g i : Nat} (u : Value) : Chg (fun k => k = g) w (w.setCell ⟨g, i, none⟩ u) := (Chg.refl (fun k => k = g) w).setCell (p := ⟨g, i, none⟩) (.inl rfl) u
theorem Chg.row1 {w : World} {g : Nat} (cs : Array Value) : Chg (fun k => k = g) w (w.setRow g cs) := ⟨rfl, rfl, rfl, by simp, fun k _ hk => setRow_other w g k cs hk⟩
theorem Chg.of_below' {S : Nat → Prop} {B : Nat} {a b : World} (h : Below B a b) (hS : ∀ k, B ≤ k → k < a.heap.size → S k) : Chg S a b := ⟨h.os, h.tape, h.output, h.size, fun i hi hn => h.block i (by
  rcases Nat.lt_or_ge i B with h1 | h1
  · exact h1
  · exact absurd (hS i h1 hi) hn)⟩
end Go.Proofs.Ytcpnfcnobnjhdaa
