/- Parts of the proofs of this seat: Lib, Data, Chg, ClearP. Each part says what it proves; no condition beyond those stated there. -/
import Derived.WalkKit
import Derived.Below
import Derived.Laws.OwnMore
import Derived.Laws.Rows

/- Words on memory that all walks of this seat share: slices whose elements take a fixed number of cells. -/
namespace Go.Proofs.YtehlbomkldnalaaGreat
open Go.RowKit

theorem hide {p : Prop} (h : p) : Hid p := h
theorem is_ {α : Type} (a : α) : ∃ x, x = a := ⟨a, rfl⟩
theorem nm_ {α : Type} (a : α) : ∃ x, a = x := ⟨a, rfl⟩
theorem wsuc (i : Nat) (h : -9223372036854775808 ≤ (i : Int) + 1 ∧ (i : Int) + 1 ≤ 9223372036854775807) : IntKind.i64.wrap ((i : Int) + 1) = ((i + 1 : Nat) : Int) := by rw [IntWalk.i64_in _ h]; push_cast; rfl
instance : Coe Int Value := ⟨fun n => .int .i64 n⟩
instance : Coe Nat Value := ⟨fun n => .int .i64 n⟩
structure ZR where
structure ZL where
structure ZS where
structure ZP where
def zrA : ZR := ⟨⟩
def zlA : ZL := ⟨⟩
def zsA : ZS := ⟨⟩
def zpA : ZP := ⟨⟩
instance : CoeOut ZR (Array Value) := ⟨fun _ => #[.int .i64 0, .int .i64 0, .int .i64 0, .int .i64 0, .int .i64 0, .slice none 0 0, .slice none 0 0, .slice none 0 0, .slice none 0 0]⟩
instance : CoeOut ZL (Array Value) := ⟨fun _ => #[.int .i64 0, .int .i64 0, .int .i64 0, .int .i64 0, .int .i64 0, .int .i64 0, .int .i64 0, .slice none 0 0]⟩
instance : CoeOut ZS (Array Value) := ⟨fun _ => #[.int .i64 0, .int .i64 0, .int .i64 0, .int .i64 0, .int .i64 0, .int .i64 0, .int .i64 0, .int .i64 0, .slice none 0 0]⟩
instance : CoeOut ZP (Array Value) := ⟨fun _ => #[.int .i64 0, .int .i64 0, .int .i64 0, .int .i64 0, .int .i64 0, .int .i64 0, .int .i64 0, .int .i64 0]⟩

/-- Element i of a slice whose elements take 'sz' cells reads as the cells 'vs', and lies below block B. -/
def RowAt (w : World) (B : Nat) (A : Option Addr) (sz i : Nat) (vs : List Value) : Prop :=
 ∃ b off, A = some ⟨b, off, none⟩ ∧ b < B ∧ ∀ j v, vs[j]? = some v → w.cell? ⟨b, off + i * sz + j, none⟩ = some v

theorem RowAt.keep {w w' : World} {B : Nat} {A : Option Addr} {sz i : Nat} {vs : List Value} (h : RowAt w B A sz i vs) (hk : ∀ p : Addr, p.block < B → w'.cell? p = w.cell? p) : RowAt w' B A sz i vs := by
 obtain ⟨b, off, rfl, hb, hc⟩ := h
 exact ⟨b, off, rfl, hb, fun j v hv => (hk _ hb).trans (hc j v hv)⟩

theorem RowAt.more {w : World} {B B' : Nat} {A : Option Addr} {sz i : Nat} {vs : List Value} (h : RowAt w B A sz i vs) (hB : B ≤ B') : RowAt w B' A sz i vs := by
 obtain ⟨b, off, rfl, hb, hc⟩ := h
 exact ⟨b, off, rfl, Nat.lt_of_lt_of_le hb hB, hc⟩

/-- A slice whose elements are told by 'enc'. -/
def Slc {α : Type} (enc : α → List Value) (sz : Nat) (w : World) (B : Nat) (A : Option Addr) (xs : List α) : Prop :=
 ∀ i x, xs[i]? = some x → RowAt w B A sz i (enc x)

section
variable {α : Type} {enc : α → List Value} {sz : Nat} {w w' : World} {B B' : Nat} {A : Option Addr} {xs : List α}
theorem Slc.nil_ : Slc enc sz w B A ([] : List α) := fun i x h => by simp at h
theorem Slc.keep (h : Slc enc sz w B A xs) (hk : ∀ p : Addr, p.block < B → w'.cell? p = w.cell? p) : Slc enc sz w' B A xs := fun i x hx => (h i x hx).keep hk
theorem Slc.below (h : Slc enc sz w B A xs) (hb : Below B w w') : Slc enc sz w' B A xs := h.keep fun _ hp => hb.cell hp
theorem Slc.more (h : Slc enc sz w B A xs) (hB : B ≤ B') : Slc enc sz w B' A xs := fun i x hx => (h i x hx).more hB
theorem Slc.at1 {k : Nat} {x : α} {v : Value} (h : Slc enc 1 w B A xs) (hk : xs[k]? = some x) (he : enc x = [v]) :
  ∃ b off, A = some ⟨b, off, none⟩ ∧ b < B ∧ w.cell? ⟨b, off + k, none⟩ = some v := by
 obtain ⟨b, off, ha, hb, hc⟩ := h k x hk
 exact ⟨b, off, ha, hb, by simpa using hc 0 v (by rw [he]; rfl)⟩
theorem Slc.at2 {k : Nat} {x : α} {v0 v1 : Value} (h : Slc enc 2 w B A xs) (hk : xs[k]? = some x) (he : enc x = [v0, v1]) :
  ∃ b off, A = some ⟨b, off, none⟩ ∧ b < B ∧ w.cell? ⟨b, off + k * 2, none⟩ = some v0 ∧ w.cell? ⟨b, off + k * 2 + 1, none⟩ = some v1 := by
 obtain ⟨b, off, ha, hb, hc⟩ := h k x hk
 exact ⟨b, off, ha, hb, by simpa using hc 0 v0 (by rw [he]; rfl), hc 1 v1 (by rw [he]; rfl)⟩
end

/-- A block that is known whole, none of its cells frozen. -/
def Blk (w : World) (g : Nat) (t : TypeId) (cs : Array Value) : Prop := w.heap[g]? = some (.cells cs t (0, 0))

section
variable {w w' : World} {g : Nat} {t : TypeId} {cs : Array Value}
theorem Blk.lt (h : Blk w g t cs) : g < w.heap.size := by
 rcases Nat.lt_or_ge g w.heap.size with hlt | hge
 ·exact hlt
 ·unfold Blk at h; rw [Array.getElem?_eq_none hge] at h; cases h
theorem Blk.cell (h : Blk w g t cs) (i : Nat) : w.cell? ⟨g, i, none⟩ = cs[i]? := cell_of_row w g i cs t (0, 0) h
theorem Blk.cell_ (h : Blk w g t cs) (i : Nat) {v : Value} (hv : cs[i]? = some v) : w.cell? ⟨g, i, none⟩ = some v := (h.cell i).trans hv
theorem Blk.all5 {w : World} {g : Nat} {t : TypeId} {a0 a1 a2 a3 a4 : Value} (h : Blk w g t #[a0, a1, a2, a3, a4]) : w.cell? ⟨g, 0, none⟩ = some a0 ∧ w.cell? ⟨g, 1, none⟩ = some a1 ∧ w.cell? ⟨g, 2, none⟩ = some a2 ∧ w.cell? ⟨g, 3, none⟩ = some a3 ∧ w.cell? ⟨g, 4, none⟩ = some a4 :=
 ⟨h.cell_ 0 rfl, h.cell_ 1 rfl, h.cell_ 2 rfl, h.cell_ 3 rfl, h.cell_ 4 rfl⟩
theorem Blk.all8 {w : World} {g : Nat} {t : TypeId} {a0 a1 a2 a3 a4 a5 a6 a7 : Value} (h : Blk w g t #[a0, a1, a2, a3, a4, a5, a6, a7]) : w.cell? ⟨g, 0, none⟩ = some a0 ∧ w.cell? ⟨g, 1, none⟩ = some a1 ∧ w.cell? ⟨g, 2, none⟩ = some a2 ∧ w.cell? ⟨g, 3, none⟩ = some a3 ∧ w.cell? ⟨g, 4, none⟩ = some a4 ∧ w.cell? ⟨g, 5, none⟩ = some a5 ∧ w.cell? ⟨g, 6, none⟩ = some a6 ∧ w.cell? ⟨g, 7, none⟩ = some a7 :=
 ⟨h.cell_ 0 rfl, h.cell_ 1 rfl, h.cell_ 2 rfl, h.cell_ 3 rfl, h.cell_ 4 rfl, h.cell_ 5 rfl, h.cell_ 6 rfl, h.cell_ 7 rfl⟩
theorem Blk.all9 {w : World} {g : Nat} {t : TypeId} {a0 a1 a2 a3 a4 a5 a6 a7 a8 : Value} (h : Blk w g t #[a0, a1, a2, a3, a4, a5, a6, a7, a8]) : w.cell? ⟨g, 0, none⟩ = some a0 ∧ w.cell? ⟨g, 1, none⟩ = some a1 ∧ w.cell? ⟨g, 2, none⟩ = some a2 ∧ w.cell? ⟨g, 3, none⟩ = some a3 ∧ w.cell? ⟨g, 4, none⟩ = some a4 ∧ w.cell? ⟨g, 5, none⟩ = some a5 ∧ w.cell? ⟨g, 6, none⟩ = some a6 ∧ w.cell? ⟨g, 7, none⟩ = some a7 ∧ w.cell? ⟨g, 8, none⟩ = some a8 :=
 ⟨h.cell_ 0 rfl, h.cell_ 1 rfl, h.cell_ 2 rfl, h.cell_ 3 rfl, h.cell_ 4 rfl, h.cell_ 5 rfl, h.cell_ 6 rfl, h.cell_ 7 rfl, h.cell_ 8 rfl⟩
theorem Blk.all17 {w : World} {g : Nat} {t : TypeId} {a0 a1 a2 a3 a4 a5 a6 a7 a8 a9 a10 a11 a12 a13 a14 a15 a16 : Value} (h : Blk w g t #[a0, a1, a2, a3, a4, a5, a6, a7, a8, a9, a10, a11, a12, a13, a14, a15, a16]) : w.cell? ⟨g, 0, none⟩ = some a0 ∧ w.cell? ⟨g, 1, none⟩ = some a1 ∧ w.cell? ⟨g, 2, none⟩ = some a2 ∧ w.cell? ⟨g, 3, none⟩ = some a3 ∧ w.cell? ⟨g, 4, none⟩ = some a4 ∧ w.cell? ⟨g, 5, none⟩ = some a5 ∧ w.cell? ⟨g, 6, none⟩ = some a6 ∧ w.cell? ⟨g, 7, none⟩ = some a7 ∧ w.cell? ⟨g, 8, none⟩ = some a8 ∧ w.cell? ⟨g, 9, none⟩ = some a9 ∧ w.cell? ⟨g, 10, none⟩ = some a10 ∧ w.cell? ⟨g, 11, none⟩ = some a11 ∧ w.cell? ⟨g, 12, none⟩ = some a12 ∧ w.cell? ⟨g, 13, none⟩ = some a13 ∧ w.cell? ⟨g, 14, none⟩ = some a14 ∧ w.cell? ⟨g, 15, none⟩ = some a15 ∧ w.cell? ⟨g, 16, none⟩ = some a16 :=
 ⟨h.cell_ 0 rfl, h.cell_ 1 rfl, h.cell_ 2 rfl, h.cell_ 3 rfl, h.cell_ 4 rfl, h.cell_ 5 rfl, h.cell_ 6 rfl, h.cell_ 7 rfl, h.cell_ 8 rfl, h.cell_ 9 rfl, h.cell_ 10 rfl, h.cell_ 11 rfl, h.cell_ 12 rfl, h.cell_ 13 rfl, h.cell_ 14 rfl, h.cell_ 15 rfl, h.cell_ 16 rfl⟩
theorem Blk.frozen (h : Blk w g t cs) (i : Nat) : w.frozen? ⟨g, i, none⟩ = false := by
 unfold Blk at h
 simp [World.frozen?, h]
theorem Blk.new (w : World) (t : TypeId) (cs : Array Value) : Blk (w.alloc (.cells cs t)) w.heap.size t cs := heap_alloc_new w _
theorem Blk.drew (h : Blk w g t cs) : Blk w.drew g t cs := h
theorem Blk.alloc (h : Blk w g t cs) (o : Obj) : Blk (w.alloc o) g t cs := (Below.heap_alloc w o g h.lt).trans h
theorem Blk.set_ (h : Blk w g t cs) (i : Nat) (u : Value) : Blk (w.setCell ⟨g, i, none⟩ u) g t (cs.setIfInBounds i u) := by
 unfold Blk at h ⊢
 simp [World.setCell, Array.getElem?_modify, h]
theorem Blk.far (h : Blk w g t cs) {p : Addr} (hp : g ≠ p.block) (u : Value) : Blk (w.setCell p u) g t cs := (Below.heap_setCell w p u g hp).trans h
theorem Blk.below {B : Nat} (h : Blk w g t cs) (hb : Below B w w') (hg : g < B) : Blk w' g t cs := (hb.block g hg).trans h
theorem Blk.grown {row : Option Nat} (h : Blk w g t cs) (hb : w.grownBy w' row) (hg : some g ≠ row) : Blk w' g t cs := (hb.block g h.lt hg).trans h
theorem Blk.ne_ {g' : Nat} {t' : TypeId} {cs' : Array Value} (h : Blk w g t cs) (h' : Blk w g' t' cs') (hne : t ≠ t') : g ≠ g' := by
 rintro rfl
 unfold Blk at h h'
 rw [h] at h'
 injection h' with h'
 injection h' with _ ht
 exact hne ht
end

theorem ret_bool {a b : Bool} (h : a = b) : Ending.returned (.bool a) = .returned (.bool b) := by rw [h]

/-- Two ints. -/
structure Pt where
 a : Int
 b : Int
def Pt.enc (p : Pt) : List Value := [.int .i64 p.a, .int .i64 p.b]
theorem pts_at {w : World} {B : Nat} {A : Option Addr} {xs : List Pt} {k : Nat} (h : Slc Pt.enc 2 w B A xs) (hk : k < xs.length) :
  ∃ f t b off, xs[k]? = some ⟨f, t⟩ ∧ A = some ⟨b, off, none⟩ ∧ b < B ∧ w.cell? ⟨b, off + k * 2, none⟩ = some (.int .i64 f) ∧ w.cell? ⟨b, off + k * 2 + 1, none⟩ = some (.int .i64 t) := by
 have hx : xs[k]? = some xs[k] := List.getElem?_eq_getElem hk
 obtain ⟨b, off, ha, hb, h0, h1⟩ := h.at2 hx (v0 := .int .i64 xs[k].a) (v1 := .int .i64 xs[k].b) rfl
 exact ⟨xs[k].a, xs[k].b, b, off, hx, ha, hb, h0, h1⟩
def intEnc (n : Int) : List Value := [.int .i64 n]
theorem ints_at' {w : World} {B : Nat} {A : Option Addr} {xs : List Int} {k : Nat} (h : Slc intEnc 1 w B A xs) (hk : k < xs.length) :
  ∃ n b off, xs[k]? = some n ∧ A = some ⟨b, off, none⟩ ∧ b < B ∧ w.cell? ⟨b, off + k, none⟩ = some (.int .i64 n) := by
 have hx : xs[k]? = some xs[k] := List.getElem?_eq_getElem hk
 obtain ⟨b, off, ha, hb, h0⟩ := h.at1 hx (v := .int .i64 xs[k]) rfl
 exact ⟨xs[k], b, off, hx, ha, hb, h0⟩
end Go.Proofs.YtehlbomkldnalaaGreat

/- Go's structs of package api as plain structures. -/
namespace Go.Proofs.YtehlbomkldnalaaGreat
structure Roll where
 id : Int
 grade : Int
 colour : Int
 lot : Int
 made : Int
 width : Int
 length : Int
 faults : List Pt
structure Shelf where
 minWidth : Int
 minLength : Int
 l0 : Int
 l1 : Int
 l2 : Int
def inB (a n b : Int) : Bool := decide (a ≤ n) && decide (n ≤ b)
theorem inB_iff {a n b : Int} : inB a n b = true ↔ a ≤ n ∧ n ≤ b := by simp [inB]
/-- the faults ascend from 'last' on, and end by 'len' -/
def spansOk (len : Int) : Int → List Pt → Bool
 | _, [] => true
 | last, f :: r => !(decide (f.a < last) || decide (f.b ≤ f.a) || decide (len < f.b)) && spansOk len f.b r
def validRoll (r : Roll) : Bool :=
 inB 1 r.id 1000000000 && inB 1 r.grade 3 && inB 1 r.colour 7 && inB 1 r.lot 1000000000 && inB 0 r.made 100000 && inB 1 r.width 150 && inB 1 r.length 6000 &&
  decide (r.faults.length ≤ 16) && spansOk r.length 0 r.faults
def validRules (s : Shelf) : Bool := inB 0 s.l0 100000 && inB 0 s.l1 100000 && inB 0 s.l2 100000 && inB 1 s.minWidth 1000 && inB 1 s.minLength 1000
theorem spansOk_drop {len last : Int} {fs : List Pt} {k : Nat} {f : Pt} (hk : fs[k]? = some f) :
  spansOk len last (fs.drop k) = (!(decide (f.a < last) || decide (f.b ≤ f.a) || decide (len < f.b)) && spansOk len f.b (fs.drop (k + 1))) := by
 have h := (List.getElem?_eq_some_iff.1 hk)
 obtain ⟨hl, hf⟩ := h
 rw [List.drop_eq_getElem_cons hl, hf]; rfl
theorem spansOk_bad {len last : Int} {fs : List Pt} {k : Nat} {f t : Int} (hk : fs[k]? = some ⟨f, t⟩) (h : f < last ∨ t ≤ f ∨ len < t) : spansOk len last (fs.drop k) = false := by
 rw [spansOk_drop hk]
 have : (decide (f < last) || decide (t ≤ f) || decide (len < t)) = true := by simp; omega
 rw [this]; rfl
theorem spansOk_good {len last : Int} {fs : List Pt} {k : Nat} {f t : Int} (hk : fs[k]? = some ⟨f, t⟩) (h : last ≤ f ∧ f < t ∧ t ≤ len) : spansOk len last (fs.drop k) = spansOk len t (fs.drop (k + 1)) := by
 rw [spansOk_drop hk]
 have : (decide (f < last) || decide (t ≤ f) || decide (len < t)) = false := by simp; omega
 rw [this]; rfl
end Go.Proofs.YtehlbomkldnalaaGreat

/- What a call has turned: blocks of a set, and new ones. -/
namespace Go.Proofs.YtehlbomkldnalaaGreat
open Go.RowKit
structure Chg (S : Nat → Prop) (w w' : World) : Prop where
 os : w'.os = w.os
 tape : w'.tape = w.tape
 output : w'.output = w.output
 size : w.heap.size ≤ w'.heap.size
 block : ∀ k, k < w.heap.size → ¬ S k → w'.heap[k]? = w.heap[k]?
section
variable {S : Nat → Prop} {a b c w w' : World}
theorem Chg.refl (S : Nat → Prop) (w : World) : Chg S w w := ⟨rfl, rfl, rfl, Nat.le_refl _, fun _ _ _ => rfl⟩
theorem Chg.trans (h : Chg S a b) (k : Chg S b c) : Chg S a c :=
 ⟨k.os.trans h.os, k.tape.trans h.tape, k.output.trans h.output, Nat.le_trans h.size k.size, fun i hi hn => (k.block i (Nat.lt_of_lt_of_le hi h.size) hn).trans (h.block i hi hn)⟩
theorem Chg.mono {T : Nat → Prop} (h : Chg S a b) (hST : ∀ k, k < a.heap.size → S k → T k) : Chg T a b := ⟨h.os, h.tape, h.output, h.size, fun i hi hn => h.block i hi fun hs => hn (hST i hi hs)⟩
theorem Chg.trans' {T : Nat → Prop} (h : Chg S a b) (k : Chg T b c) (hT : ∀ i, i < a.heap.size → T i → S i) : Chg S a c :=
 ⟨k.os.trans h.os, k.tape.trans h.tape, k.output.trans h.output, Nat.le_trans h.size k.size, fun i hi hn => (k.block i (Nat.lt_of_lt_of_le hi h.size) fun ht => hn (hT i hi ht)).trans (h.block i hi hn)⟩
theorem Chg.of_below (h : Below a.heap.size a b) : Chg S a b := ⟨h.os, h.tape, h.output, h.size, fun i hi _ => h.block i hi⟩
theorem Chg.of_grown {r : Nat} (h : a.grownBy b (some r)) (hr : S r) : Chg S a b := ⟨h.os, h.tape, h.output, h.size, fun i hi hn => h.block i hi fun e => hn (by injection e with e; exact e ▸ hr)⟩
theorem Chg.to_below {B : Nat} (h : Chg S a b) (hB : B ≤ a.heap.size) (hS : ∀ k, k < B → ¬ S k) : Below B a b := ⟨h.os, h.tape, h.output, h.size, fun i hi => h.block i (by omega) (hS i hi)⟩
theorem Chg.drew (h : Chg S a b) : Chg S a b.drew := ⟨h.os, h.tape, h.output, h.size, h.block⟩
theorem Chg.alloc (h : Chg S a b) (o : Obj) : Chg S a (b.alloc o) := h.trans (.of_below ((Below.refl _ _).alloc (Nat.le_refl _) o))
theorem Chg.setCell (h : Chg S a b) {p : Addr} (hp : S p.block ∨ a.heap.size ≤ p.block) (u : Value) : Chg S a (b.setCell p u) :=
 ⟨h.os, h.tape, h.output, by simpa [World.setCell] using h.size, fun i hi hn => (Below.heap_setCell b p u i (by
  rintro rfl
  rcases hp with hp | hp
  ·exact hn hp
  ·omega)).trans (h.block i hi hn)⟩
end
theorem Blk.chg {S : Nat → Prop} {w w' : World} {b : Nat} {t : TypeId} {cs : Array Value} (h : Blk w b t cs) (hc : Chg S w w') (hn : ¬ S b) : Blk w' b t cs := (hc.block b h.lt hn).trans h
theorem Blk.chg1 {g : Nat} {w w' : World} {b : Nat} {t : TypeId} {cs : Array Value} (h : Blk w b t cs) (hc : Chg (fun k => k = g) w w') (hn : b ≠ g) : Blk w' b t cs := (hc.block b h.lt hn).trans h
theorem Chg.below1 {g B : Nat} {w w' : World} (hc : Chg (fun k => k = g) w w') (hB : B ≤ w.heap.size) (hg : B ≤ g) : Below B w w' := hc.to_below hB fun k hk he => by subst he; omega
theorem Chg.set1 {w : World} {g i : Nat} (u : Value) : Chg (fun k => k = g) w (w.setCell ⟨g, i, none⟩ u) := (Chg.refl (fun k => k = g) w).setCell (p := ⟨g, i, none⟩) (.inl rfl) u
theorem Chg.row1 {w : World} {g : Nat} (cs : Array Value) : Chg (fun k => k = g) w (w.setRow g cs) := ⟨rfl, rfl, rfl, by simp, fun k _ hk => setRow_other w g k cs hk⟩
theorem Chg.of_below' {S : Nat → Prop} {B : Nat} {a b : World} (h : Below B a b) (hS : ∀ k, B ≤ k → k < a.heap.size → S k) : Chg S a b := ⟨h.os, h.tape, h.output, h.size, fun i hi hn => h.block i (by
 rcases Nat.lt_or_ge i B with h1 | h1
 ·exact h1
 ·exact absurd (hS i h1 hi) hn)⟩
end Go.Proofs.YtehlbomkldnalaaGreat

/- Clear: the plain law. The least offset at which 'need' places without a fault begin. -/
namespace Go.Proofs.YtehlbomkldnalaaGreat

/-- no fault has a place from p to less than p + n -/
def freeB (fs : List Pt) (p n : Int) : Bool := fs.all fun f => !(decide (f.a < f.b) && decide (f.a < p + n) && decide (p < f.b))
/-- the fault stands in the way -/
def hits (f : Pt) (p n : Int) : Prop := f.a < f.b ∧ f.a < p + n ∧ p < f.b

theorem freeB_iff (fs : List Pt) (p n : Int) : freeB fs p n = true ↔ ∀ (i : Nat) f, fs[i]? = some f → ¬ hits f p n := by
 unfold freeB hits
 rw [List.all_eq_true]
 constructor
 ·intro h i f hf
  have := h f (List.mem_of_getElem? hf)
  simp at this
  omega
 ·intro h f hf
  obtain ⟨i, hi⟩ := List.getElem?_of_mem hf
  have := h i f hi
  simp
  omega
theorem free_of {fs : List Pt} {p n : Int} (h : ∀ (i : Nat) f, fs[i]? = some f → ¬ hits f p n) : freeB fs p n = true := (freeB_iff _ _ _).2 h
theorem not_free {fs : List Pt} {p n : Int} {i : Nat} {f : Pt} (hf : fs[i]? = some f) (h : hits f p n) : freeB fs p n = false := by
 cases hb : freeB fs p n
 ·rfl
 ·exact absurd h ((freeB_iff _ _ _).1 hb i f hf)

/-- r is the least free offset, or there is none -/
def IsClear (l : Int) (fs : List Pt) (n : Int) : Option Int → Prop
 | some p => 1 ≤ n ∧ 0 ≤ p ∧ p ≤ l - n ∧ freeB fs p n = true ∧ ∀ q, 0 ≤ q → q < p → freeB fs q n = false
 | none => n < 1 ∨ l < n ∨ ∀ q, 0 ≤ q → q ≤ l - n → freeB fs q n = false

theorem IsClear.unique {l : Int} {fs : List Pt} {n : Int} {r s : Option Int} (h : IsClear l fs n r) (k : IsClear l fs n s) : r = s := by
 cases r with
 | none =>
  cases s with
  | none => rfl
  | some q =>
   simp only [IsClear] at h k
   obtain ⟨k1, k2, k3, k4, k5⟩ := k
   rcases h with h | h | h
   ·omega
   ·omega
   ·rw [h q k2 k3] at k4; cases k4
 | some p =>
  cases s with
  | none =>
   simp only [IsClear] at h k
   obtain ⟨k1, k2, k3, k4, k5⟩ := h
   rcases k with h | h | h
   ·omega
   ·omega
   ·rw [h p k2 k3] at k4; cases k4
  | some q =>
   simp only [IsClear] at h k
   obtain ⟨h1, h2, h3, h4, h5⟩ := h
   obtain ⟨k1, k2, k3, k4, k5⟩ := k
   have : p = q := by
    rcases Int.lt_trichotomy p q with e | e | e
    ·rw [k5 p h2 e] at h4; cases h4
    ·exact e
    ·rw [h5 q k2 e] at k4; cases k4
   rw [this]

open Classical in
noncomputable def clear (l : Int) (fs : List Pt) (n : Int) : Option Int := if h : ∃ r, IsClear l fs n r then h.choose else none
theorem clear_eq {l : Int} {fs : List Pt} {n : Int} {r : Option Int} (h : IsClear l fs n r) : clear l fs n = r := by
 unfold clear
 rw [dif_pos ⟨r, h⟩]
 exact IsClear.unique (Exists.choose_spec ⟨r, h⟩) h
/-- what Go's two results are -/
noncomputable def clearVal (l : Int) (fs : List Pt) (n : Int) : Value := .tuple #[.int .i64 ((clear l fs n).getD 0), .bool (clear l fs n).isSome]
theorem clear_none_val {l : Int} {fs : List Pt} {n : Int} (h : IsClear l fs n none) : Ending.returned (.tuple #[.int .i64 0, .bool false]) = .returned (clearVal l fs n) := by
 unfold clearVal; rw [clear_eq h]; rfl
theorem clear_some_val {l : Int} {fs : List Pt} {n p : Int} (h : IsClear l fs n (some p)) : Ending.returned (.tuple #[p, .bool true]) = .returned (clearVal l fs n) := by
 unfold clearVal; rw [clear_eq h]; rfl
end Go.Proofs.YtehlbomkldnalaaGreat
