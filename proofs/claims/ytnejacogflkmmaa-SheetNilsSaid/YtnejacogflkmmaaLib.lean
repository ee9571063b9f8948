/- Words on memory that all walks of this seat share: slices whose elements take a fixed number of cells. -/
import Derived.WalkKit
import Derived.Below
import Derived.Laws.OwnMore
import Derived.Laws.Rows
namespace Go.Proofs.Ytnejacogflkmmaa
open Go.RowKit

theorem hide {p : Prop} (h : p) : Hid p := h

/-- Element i of a slice whose elements take 'sz' cells reads as the cells 'vs', and lies below block B. -/
def RowAt (w : World) (B : Nat) (A : Option Addr) (sz i : Nat) (vs : List Value) : Prop :=
  ∃ b off, A = some ⟨b, off, none⟩ ∧ b < B ∧ ∀ j v, vs[j]? = some v → w.cell? ⟨b, off + i * sz + j, none⟩ = some v

theorem RowAt.keep {w w' : World} {B : Nat} {A : Option Addr} {sz i : Nat} {vs : List Value} (h : RowAt w B A sz i vs) (hk : ∀ p : Addr, p.block < B → w'.cell? p = w.cell? p) : RowAt w' B A sz i vs := by
  obtain ⟨b, off, rfl, hb, hc⟩ := h
  exact ⟨b, off, rfl, hb, fun j v hv => (hk _ hb).trans (hc j v hv)⟩

theorem RowAt.more {w : World} {B B' : Nat} {A : Option Addr} {sz i : Nat} {vs : List Value} (h : RowAt w B A sz i vs) (hB : B ≤ B') : RowAt w B' A sz i vs := by
  obtain ⟨b, off, rfl, hb, hc⟩ := h
  exact ⟨b, off, rfl, Nat.lt_of_lt_of_le hb hB, hc⟩

/-- A slice whose elements are told by 'enc'. -/
def Slc {α : Type} (enc : α → List Value) (sz : Nat) (w : World) (B : Nat) (A : Option Addr) (xs : List α) : Prop :=
  ∀ i x, xs[i]? = some x → RowAt w B A sz i (enc x)

section
variable {α : Type} {enc : α → List Value} {sz : Nat} {w w' : World} {B B' : Nat} {A : Option Addr} {xs : List α}
theorem Slc.nil_ : Slc enc sz w B A ([] : List α) := fun i x h => by simp at h
theorem Slc.keep (h : Slc enc sz w B A xs) (hk : ∀ p : Addr, p.block < B → w'.cell? p = w.cell? p) : Slc enc sz w' B A xs := fun i x hx => (h i x hx).keep hk
theorem Slc.below (h : Slc enc sz w B A xs) (hb : Below B w w') : Slc enc sz w' B A xs := h.keep fun _ hp => hb.cell hp
theorem Slc.more (h : Slc enc sz w B A xs) (hB : B ≤ B') : Slc enc sz w B' A xs := fun i x hx => (h i x hx).more hB
theorem Slc.at1 {k : Nat} {x : α} {v : Value} (h : Slc enc 1 w B A xs) (hk : xs[k]? = some x) (he : enc x = [v]) :
    ∃ b off, A = some ⟨b, off, none⟩ ∧ b < B ∧ w.cell? ⟨b, off + k, none⟩ = some v := by
  obtain ⟨b, off, ha, hb, hc⟩ := h k x hk
  exact ⟨b, off, ha, hb, by simpa using hc 0 v (by rw [he]; rfl)⟩
theorem Slc.at2 {k : Nat} {x : α} {v0 v1 : Value} (h : Slc enc 2 w B A xs) (hk : xs[k]? = some x) (he : enc x = [v0, v1]) :
    ∃ b off, A = some ⟨b, off, none⟩ ∧ b < B ∧ w.cell? ⟨b, off + k * 2, none⟩ = some v0 ∧ w.cell? ⟨b, off + k * 2 + 1, none⟩ = some v1 := by
  obtain ⟨b, off, ha, hb, hc⟩ := h k x hk
  exact ⟨b, off, ha, hb, by simpa using hc 0 v0 (by rw [he]; rfl), hc 1 v1 (by rw [he]; rfl)⟩
end

/-- A block that is known whole, none of its cells frozen. -/
def Blk (w : World) (g : Nat) (t : TypeId) (cs : Array Value) : Prop := w.heap[g]? = some (.cells cs t (0, 0))

section
variable {w w' : World} {g : Nat} {t : TypeId} {cs : Array Value}
theorem Blk.lt (h : Blk w g t cs) : g < w.heap.size := by
  rcases Nat.lt_or_ge g w.heap.size with hlt | hge
  · exact hlt
  · unfold Blk at h; rw [Array.getElem?_eq_none hge] at h; cases h
theorem Blk.cell (h : Blk w g t cs) (i : Nat) : w.cell? ⟨g, i, none⟩ = cs[i]? := cell_of_row w g i cs t (0, 0) h
theorem Blk.cell_ (h : Blk w g t cs) (i : Nat) {v : Value} (hv : cs[i]? = some v) : w.cell? ⟨g, i, none⟩ = some v := (h.cell i).trans hv
theorem Blk.frozen (h : Blk w g t cs) (i : Nat) : w.frozen? ⟨g, i, none⟩ = false := by
  unfold Blk at h
  simp [World.frozen?, h]
theorem Blk.new (w : World) (t : TypeId) (cs : Array Value) : Blk (w.alloc (.cells cs t)) w.heap.size t cs := heap_alloc_new w _
theorem Blk.drew (h : Blk w g t cs) : Blk w.drew g t cs := h
theorem Blk.alloc (h : Blk w g t cs) (o : Obj) : Blk (w.alloc o) g t cs := (Below.heap_alloc w o g h.lt).trans h
theorem Blk.set_ (h : Blk w g t cs) (i : Nat) (u : Value) : Blk (w.setCell ⟨g, i, none⟩ u) g t (cs.setIfInBounds i u) := by
  unfold Blk at h ⊢
  simp [World.setCell, Array.getElem?_modify, h]
theorem Blk.far (h : Blk w g t cs) {p : Addr} (hp : g ≠ p.block) (u : Value) : Blk (w.setCell p u) g t cs := (Below.heap_setCell w p u g hp).trans h
theorem Blk.below {B : Nat} (h : Blk w g t cs) (hb : Below B w w') (hg : g < B) : Blk w' g t cs := (hb.block g hg).trans h
theorem Blk.grown {row : Option Nat} (h : Blk w g t cs) (hb : w.grownBy w' row) (hg : some g ≠ row) : Blk w' g t cs := (hb.block g h.lt hg).trans h
theorem Blk.ne_ {g' : Nat} {t' : TypeId} {cs' : Array Value} (h : Blk w g t cs) (h' : Blk w g' t' cs') (hne : t ≠ t') : g ≠ g' := by
  rintro rfl
  unfold Blk at h h'
  rw [h] at h'
  injection h' with h'
  injection h' with _ ht
  exact hne ht
end

theorem ret_int {k : IntKind} {a b : Int} (h : a = b) : Ending.returned (.int k a) = .returned (.int k b) := by rw [h]
theorem ret_bool {a b : Bool} (h : a = b) : Ending.returned (.bool a) = .returned (.bool b) := by rw [h]

theorem ret_pair {k k' : IntKind} {a b : Int} {c d : Int} (h : a = b) (h' : c = d) : Ending.returned (.tuple #[.int k a, .int k' c]) = .returned (.tuple #[.int k b, .int k' d]) := by rw [h, h']
theorem ret_ib {k : IntKind} {a b : Int} {c d : Bool} (h : a = b) (h' : c = d) : Ending.returned (.tuple #[.int k a, .bool c]) = .returned (.tuple #[.int k b, .bool d]) := by rw [h, h']

/-- Two ints. -/
structure Pt where
  a : Int
  b : Int
def Pt.enc (p : Pt) : List Value := [.int .i64 p.a, .int .i64 p.b]
theorem pts_at {w : World} {B : Nat} {A : Option Addr} {xs : List Pt} {k : Nat} (h : Slc Pt.enc 2 w B A xs) (hk : k < xs.length) :
    ∃ f t b off, xs[k]? = some ⟨f, t⟩ ∧ A = some ⟨b, off, none⟩ ∧ b < B ∧ w.cell? ⟨b, off + k * 2, none⟩ = some (.int .i64 f) ∧ w.cell? ⟨b, off + k * 2 + 1, none⟩ = some (.int .i64 t) := by
  have hx : xs[k]? = some xs[k] := List.getElem?_eq_getElem hk
  obtain ⟨b, off, ha, hb, h0, h1⟩ := h.at2 hx (v0 := .int .i64 xs[k].a) (v1 := .int .i64 xs[k].b) rfl
  exact ⟨xs[k].a, xs[k].b, b, off, hx, ha, hb, h0, h1⟩
def intEnc (n : Int) : List Value := [.int .i64 n]
theorem ints_at' {w : World} {B : Nat} {A : Option Addr} {xs : List Int} {k : Nat} (h : Slc intEnc 1 w B A xs) (hk : k < xs.length) :
    ∃ n b off, xs[k]? = some n ∧ A = some ⟨b, off, none⟩ ∧ b < B ∧ w.cell? ⟨b, off + k, none⟩ = some (.int .i64 n) := by
  have hx : xs[k]? = some xs[k] := List.getElem?_eq_getElem hk
  obtain ⟨b, off, ha, hb, h0⟩ := h.at1 hx (v := .int .i64 xs[k]) rfl
  exact ⟨xs[k], b, off, hx, ha, hb, h0⟩
end Go.Proofs.Ytnejacogflkmmaa
