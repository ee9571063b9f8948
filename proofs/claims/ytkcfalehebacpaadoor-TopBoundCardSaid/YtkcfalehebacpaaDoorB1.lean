/- Parts of the proofs of this seat: Lib, KP, KDearP, Chg, KBits. Each part says what it proves; no condition beyond those stated there. -/
import Derived.WalkKit
import Derived.Below
import Derived.Laws.OwnMore
import Derived.Laws.Rows

/- Words on memory that all walks of this seat share: slices whose elements take a fixed number of cells. -/
namespace Go.Proofs.YtkcfalehebacpaaDoor
open Go.RowKit

theorem hide {p : Prop} (h : p) : Hid p := h

/-- Element i of a slice whose elements take 'sz' cells reads as the cells 'vs', and lies below block B. -/
def RowAt (w : World) (B : Nat) (A : Option Addr) (sz i : Nat) (vs : List Value) : Prop :=
  ∃ b off, A = some ⟨b, off, none⟩ ∧ b < B ∧ ∀ j v, vs[j]? = some v → w.cell? ⟨b, off + i * sz + j, none⟩ = some v

theorem RowAt.keep {w w' : World} {B : Nat} {A : Option Addr} {sz i : Nat} {vs : List Value} (h : RowAt w B A sz i vs) (hk : ∀ p : Addr, p.block < B → w'.cell? p = w.cell? p) : RowAt w' B A sz i vs := by
  obtain ⟨b, off, rfl, hb, hc⟩ := h
  exact ⟨b, off, rfl, hb, fun j v hv => (hk _ hb).trans (hc j v hv)⟩

theorem RowAt.more {w : World} {B B' : Nat} {A : Option Addr} {sz i : Nat} {vs : List Value} (h : RowAt w B A sz i vs) (hB : B ≤ B') : RowAt w B' A sz i vs := by
  obtain ⟨b, off, rfl, hb, hc⟩ := h
  exact ⟨b, off, rfl, Nat.lt_of_lt_of_le hb hB, hc⟩

/-- A slice whose elements are told by 'enc'. -/
def Slc {α : Type} (enc : α → List Value) (sz : Nat) (w : World) (B : Nat) (A : Option Addr) (xs : List α) : Prop :=
  ∀ i x, xs[i]? = some x → RowAt w B A sz i (enc x)

section
variable {α : Type} {enc : α → List Value} {sz : Nat} {w w' : World} {B B' : Nat} {A : Option Addr} {xs : List α}
theorem Slc.nil_ : Slc enc sz w B A ([] : List α) := fun i x h => by simp at h
theorem Slc.keep (h : Slc enc sz w B A xs) (hk : ∀ p : Addr, p.block < B → w'.cell? p = w.cell? p) : Slc enc sz w' B A xs := fun i x hx => (h i x hx).keep hk
theorem Slc.below (h : Slc enc sz w B A xs) (hb : Below B w w') : Slc enc sz w' B A xs := h.keep fun _ hp => hb.cell hp
theorem Slc.more (h : Slc enc sz w B A xs) (hB : B ≤ B') : Slc enc sz w B' A xs := fun i x hx => (h i x hx).more hB
theorem Slc.at1 {k : Nat} {x : α} {v : Value} (h : Slc enc 1 w B A xs) (hk : xs[k]? = some x) (he : enc x = [v]) :
    ∃ b off, A = some ⟨b, off, none⟩ ∧ b < B ∧ w.cell? ⟨b, off + k, none⟩ = some v := by
  obtain ⟨b, off, ha, hb, hc⟩ := h k x hk
  exact ⟨b, off, ha, hb, by simpa using hc 0 v (by rw [he]; rfl)⟩
theorem Slc.at2 {k : Nat} {x : α} {v0 v1 : Value} (h : Slc enc 2 w B A xs) (hk : xs[k]? = some x) (he : enc x = [v0, v1]) :
    ∃ b off, A = some ⟨b, off, none⟩ ∧ b < B ∧ w.cell? ⟨b, off + k * 2, none⟩ = some v0 ∧ w.cell? ⟨b, off + k * 2 + 1, none⟩ = some v1 := by
  obtain ⟨b, off, ha, hb, hc⟩ := h k x hk
  exact ⟨b, off, ha, hb, by simpa using hc 0 v0 (by rw [he]; rfl), hc 1 v1 (by rw [he]; rfl)⟩
end

/-- A block that is known whole, none of its cells frozen. -/
def Blk (w : World) (g : Nat) (t : TypeId) (cs : Array Value) : Prop := w.heap[g]? = some (.cells cs t (0, 0))

section
variable {w w' : World} {g : Nat} {t : TypeId} {cs : Array Value}
theorem Blk.lt (h : Blk w g t cs) : g < w.heap.size := by
  rcases Nat.lt_or_ge g w.heap.size with hlt | hge
  · exact hlt
  · unfold Blk at h; rw [Array.getElem?_eq_none hge] at h; cases h
theorem Blk.cell (h : Blk w g t cs) (i : Nat) : w.cell? ⟨g, i, none⟩ = cs[i]? := cell_of_row w g i cs t (0, 0) h
theorem Blk.cell_ (h : Blk w g t cs) (i : Nat) {v : Value} (hv : cs[i]? = some v) : w.cell? ⟨g, i, none⟩ = some v := (h.cell i).trans hv
theorem Blk.frozen (h : Blk w g t cs) (i : Nat) : w.frozen? ⟨g, i, none⟩ = false := by
  unfold Blk at h
  simp [World.frozen?, h]
theorem Blk.new (w : World) (t : TypeId) (cs : Array Value) : Blk (w.alloc (.cells cs t)) w.heap.size t cs := heap_alloc_new w _
theorem Blk.drew (h : Blk w g t cs) : Blk w.drew g t cs := h
theorem Blk.alloc (h : Blk w g t cs) (o : Obj) : Blk (w.alloc o) g t cs := (Below.heap_alloc w o g h.lt).trans h
theorem Blk.set_ (h : Blk w g t cs) (i : Nat) (u : Value) : Blk (w.setCell ⟨g, i, none⟩ u) g t (cs.setIfInBounds i u) := by
  unfold Blk at h ⊢
  simp [World.setCell, Array.getElem?_modify, h]
theorem Blk.far (h : Blk w g t cs) {p : Addr} (hp : g ≠ p.block) (u : Value) : Blk (w.setCell p u) g t cs := (Below.heap_setCell w p u g hp).trans h
theorem Blk.below {B : Nat} (h : Blk w g t cs) (hb : Below B w w') (hg : g < B) : Blk w' g t cs := (hb.block g hg).trans h
theorem Blk.grown {row : Option Nat} (h : Blk w g t cs) (hb : w.grownBy w' row) (hg : some g ≠ row) : Blk w' g t cs := (hb.block g h.lt hg).trans h
theorem Blk.ne_ {g' : Nat} {t' : TypeId} {cs' : Array Value} (h : Blk w g t cs) (h' : Blk w g' t' cs') (hne : t ≠ t') : g ≠ g' := by
  rintro rfl
  unfold Blk at h h'
  rw [h] at h'
  injection h' with h'
  injection h' with _ ht
  exact hne ht
end

theorem ret_int {k : IntKind} {a b : Int} (h : a = b) : Ending.returned (.int k a) = .returned (.int k b) := by rw [h]
theorem ret_bool {a b : Bool} (h : a = b) : Ending.returned (.bool a) = .returned (.bool b) := by rw [h]

theorem ret_pair {k k' : IntKind} {a b : Int} {c d : Int} (h : a = b) (h' : c = d) : Ending.returned (.tuple #[.int k a, .int k' c]) = .returned (.tuple #[.int k b, .int k' d]) := by rw [h, h']
theorem ret_ib {k : IntKind} {a b : Int} {c d : Bool} (h : a = b) (h' : c = d) : Ending.returned (.tuple #[.int k a, .bool c]) = .returned (.tuple #[.int k b, .bool d]) := by rw [h, h']

/-- Two ints. -/
structure Pt where
  a : Int
  b : Int
def Pt.enc (p : Pt) : List Value := [.int .i64 p.a, .int .i64 p.b]
theorem pts_at {w : World} {B : Nat} {A : Option Addr} {xs : List Pt} {k : Nat} (h : Slc Pt.enc 2 w B A xs) (hk : k < xs.length) :
    ∃ f t b off, xs[k]? = some ⟨f, t⟩ ∧ A = some ⟨b, off, none⟩ ∧ b < B ∧ w.cell? ⟨b, off + k * 2, none⟩ = some (.int .i64 f) ∧ w.cell? ⟨b, off + k * 2 + 1, none⟩ = some (.int .i64 t) := by
  have hx : xs[k]? = some xs[k] := List.getElem?_eq_getElem hk
  obtain ⟨b, off, ha, hb, h0, h1⟩ := h.at2 hx (v0 := .int .i64 xs[k].a) (v1 := .int .i64 xs[k].b) rfl
  exact ⟨xs[k].a, xs[k].b, b, off, hx, ha, hb, h0, h1⟩
def intEnc (n : Int) : List Value := [.int .i64 n]
theorem ints_at' {w : World} {B : Nat} {A : Option Addr} {xs : List Int} {k : Nat} (h : Slc intEnc 1 w B A xs) (hk : k < xs.length) :
    ∃ n b off, xs[k]? = some n ∧ A = some ⟨b, off, none⟩ ∧ b < B ∧ w.cell? ⟨b, off + k, none⟩ = some (.int .i64 n) := by
  have hx : xs[k]? = some xs[k] := List.getElem?_eq_getElem hk
  obtain ⟨b, off, ha, hb, h0⟩ := h.at1 hx (v := .int .i64 xs[k]) rfl
  exact ⟨xs[k], b, off, hx, ha, hb, h0⟩
end Go.Proofs.YtkcfalehebacpaaDoor

/- Cuttings: the plain words. -/
namespace Go.Proofs.YtkcfalehebacpaaDoor
open Go.RowKit
structure Ask where
  len : Int
  cnt : Int
instance : Inhabited Ask := ⟨⟨0, 0⟩⟩
def Ask.enc (a : Ask) : List Value := [.int .i64 a.len, .int .i64 a.cnt]
def inB (a n b : Int) : Bool := decide (a ≤ n) && decide (n ≤ b)
theorem inB_iff {a n b : Int} : inB a n b = true ↔ a ≤ n ∧ n ≤ b := by simp [inB]
theorem inB_false {a n b : Int} : inB a n b = false ↔ n < a ∨ b < n := by simp [inB]; omega
theorem ask_at {w : World} {B : Nat} {A : Option Addr} {xs : List Ask} {k : Nat} (h : Slc Ask.enc 2 w B A xs) (hk : k < xs.length) :
    ∃ n b off, xs[k]? = some n ∧ A = some ⟨b, off, none⟩ ∧ b < B ∧ w.cell? ⟨b, off + k * 2, none⟩ = some (.int .i64 n.len) ∧ w.cell? ⟨b, off + k * 2 + 1, none⟩ = some (.int .i64 n.cnt) := by
  have hx : xs[k]? = some xs[k] := List.getElem?_eq_getElem hk
  obtain ⟨b, off, ha, hb, h0⟩ := h k _ hx
  exact ⟨xs[k], b, off, hx, ha, hb, h0 0 _ rfl, h0 1 _ rfl⟩
def askOk (L : Int) (a : Ask) : Bool := inB 1 a.len L && inB 0 a.cnt 50
def validK (L K : Int) (l : List Ask) : Bool := inB 1 L 1000 && inB 0 K 20 && decide (l.length ≤ 8) && l.all (askOk L)
structure VK (L K : Int) (l : List Ask) : Prop where
  hL : 1 ≤ L ∧ L ≤ 1000
  hK : 0 ≤ K ∧ K ≤ 20
  few : l.length ≤ 8
  ask : ∀ a ∈ l, (1 ≤ a.len ∧ a.len ≤ L) ∧ 0 ≤ a.cnt ∧ a.cnt ≤ 50
theorem validK_iff {L K : Int} {l : List Ask} : validK L K l = true ↔ VK L K l := by
  unfold validK askOk
  simp only [Bool.and_eq_true, inB_iff, decide_eq_true_eq, List.all_eq_true]
  exact ⟨fun h => ⟨h.1.1.1, h.1.1.2, h.1.2, fun a ha => h.2 a ha⟩, fun h => ⟨⟨⟨h.hL, h.hK⟩, h.few⟩, fun a ha => h.ask a ha⟩⟩
theorem all_drop {α : Type} {f : α → Bool} {l : List α} {i : Nat} {x : α} (h : l[i]? = some x) : (l.drop i).all f = (f x && (l.drop (i + 1)).all f) := by
  obtain ⟨h1, h2⟩ := List.getElem?_eq_some_iff.1 h
  rw [List.drop_eq_getElem_cons h1, h2, List.all_cons]
theorem Slc.on {α : Type} {enc : α → List Value} {sz : Nat} {w w' : World} {A : Option Addr} {xs : List α} (h : Slc enc sz w w.heap.size A xs) (hb : Below w.heap.size w w') : Slc enc sz w' w'.heap.size A xs := (h.below hb).more hb.size
end Go.Proofs.YtkcfalehebacpaaDoor

/- The dearest pattern: the plain law of the table. -/
namespace Go.Proofs.YtkcfalehebacpaaDoor
/-- the greatest worth with at most k pieces of one kind, in a room -/
def topK (b : List Int) (wd : Nat) (p : Int) (r : Nat) : Nat → Int
  | 0 => b.getD r 0
  | k + 1 => if (k + 1) * wd ≤ r then max (topK b wd p r k) (b.getD (r - (k + 1) * wd) 0 + (k + 1 : Nat) * p) else topK b wd p r k
def rowK (b : List Int) (wd : Nat) (p : Int) (cnt : Nat) : List Int := (List.range b.length).map fun r => topK b wd p r cnt
/-- the table behind all asks -/
def bestL (K : Int) : List Ask → List Int → List Int → List Int
  | [], _, b => b
  | _ :: _, [], b => b
  | a :: l, p :: ps, b => bestL K l ps (rowK b (a.len + K).toNat p a.cnt.toNat)
theorem bestL_step {K : Int} {l : List Ask} {ps b : List Int} {i : Nat} {a : Ask} {p : Int} (ha : l[i]? = some a) (hp : ps[i]? = some p) : bestL K (l.drop i) (ps.drop i) b = bestL K (l.drop (i + 1)) (ps.drop (i + 1)) (rowK b (a.len + K).toNat p a.cnt.toNat) := by
  obtain ⟨h1, h2⟩ := List.getElem?_eq_some_iff.1 ha
  obtain ⟨h3, h4⟩ := List.getElem?_eq_some_iff.1 hp
  rw [List.drop_eq_getElem_cons h1, List.drop_eq_getElem_cons h3, h2, h4]; rfl
theorem bestL_end {K : Int} {l : List Ask} {ps b : List Int} : bestL K (l.drop l.length) (ps.drop l.length) b = b := by
  rw [List.drop_length]
  cases ps.drop l.length <;> rfl
theorem rowK_len (b : List Int) (wd : Nat) (p : Int) (cnt : Nat) : (rowK b wd p cnt).length = b.length := by simp [rowK]
theorem rowK_get {b : List Int} {wd : Nat} {p : Int} {cnt r : Nat} (h : r < b.length) : (rowK b wd p cnt)[r]? = some (topK b wd p r cnt) := by simp [rowK, h]
/-- where the next piece has no room, no more have -/
theorem topK_stop {b : List Int} {wd : Nat} {p : Int} {r k : Nat} (h : r < (k + 1) * wd) : ∀ {m}, k ≤ m → topK b wd p r m = topK b wd p r k
  | 0, hm => by obtain rfl : k = 0 := by omega
                rfl
  | m + 1, hm => by
    rcases Nat.lt_or_ge k (m + 1) with h1 | h1
    · have h2 : (k + 1) * wd ≤ (m + 1) * wd := Nat.mul_le_mul_right _ (by omega)
      rw [topK, if_neg (by omega)]
      exact topK_stop h (by omega)
    · obtain rfl : k = m + 1 := by omega
      rfl
theorem topK_more {b : List Int} {wd : Nat} {p : Int} {r k : Nat} (h : (k + 1) * wd ≤ r) : topK b wd p r (k + 1) = max (topK b wd p r k) (b.getD (r - (k + 1) * wd) 0 + (k + 1 : Nat) * p) := by rw [topK, if_pos h]
def Low (b : List Int) (M : Int) : Prop := ∀ (q : Nat) v, b[q]? = some v → 0 ≤ v ∧ v ≤ M
theorem Low.getD_ {b : List Int} {M : Int} (h : Low b M) (hM : 0 ≤ M) (q : Nat) : 0 ≤ b.getD q 0 ∧ b.getD q 0 ≤ M := by
  rw [List.getD_eq_getElem?_getD]
  cases hq : b[q]? with
  | none => exact ⟨Int.le_refl _, hM⟩
  | some v => exact h q v hq
theorem topK_low {b : List Int} {wd : Nat} {p M : Int} {r : Nat} (h : Low b M) (hM : 0 ≤ M) (hp : 0 ≤ p ∧ p ≤ 1000000) : ∀ k : Nat, 0 ≤ topK b wd p r k ∧ topK b wd p r k ≤ M + k * 1000000
  | 0 => by have := h.getD_ hM r; unfold topK; omega
  | k + 1 => by
    have ih := topK_low h hM hp k (r := r) (wd := wd)
    unfold topK
    split
    · have h1 := h.getD_ hM (r - (k + 1) * wd)
      have h2 : 0 ≤ ((k + 1 : Nat) : Int) * p := Int.mul_nonneg (by omega) hp.1
      have h3 : ((k + 1 : Nat) : Int) * p ≤ ((k + 1 : Nat) : Int) * 1000000 := Int.mul_le_mul_of_nonneg_left hp.2 (by omega)
      omega
    · omega
theorem rowK_low {b : List Int} {wd : Nat} {p M : Int} {cnt : Nat} (h : Low b M) (hM : 0 ≤ M) (hp : 0 ≤ p ∧ p ≤ 1000000) (hc : cnt ≤ 50) : Low (rowK b wd p cnt) (M + 50000000) := fun q v hv => by
  have hq : q < b.length := by rw [← rowK_len b wd p cnt]; exact (List.getElem?_eq_some_iff.1 hv).1
  rw [rowK_get hq] at hv
  injection hv with hv
  have := topK_low (r := q) (wd := wd) h hM hp cnt
  omega
theorem low_zero (n : Nat) : Low (List.replicate n 0) 0 := fun q v hv => by
  rw [List.getElem?_replicate] at hv
  split at hv
  · injection hv with hv; omega
  · cases hv
def dearF (L K : Int) (l : List Ask) (ps : List Int) : Int := (bestL K l ps (List.replicate ((L + K).toNat + 1) 0)).getD (L + K).toNat 0
/-- a table that is as far as room r -/
def RowTo (b : List Int) (wd : Nat) (p : Int) (cnt r : Nat) (N : List Int) : Prop := ∀ (q : Nat) v, N[q]? = some v → v = if q < r then topK b wd p q cnt else b.getD q 0
/-- .. and at room r as far as k pieces -/
def RowAtK (b : List Int) (wd : Nat) (p : Int) (cnt r k : Nat) (N : List Int) : Prop := ∀ (q : Nat) v, N[q]? = some v → v = if q < r then topK b wd p q cnt else if q = r then topK b wd p r k else b.getD q 0
section
variable {b N : List Int} {wd cnt r k : Nat} {p : Int}
theorem RowTo.start (hN : N = b) : RowTo b wd p cnt 0 N := fun q v hv => by
  subst hN
  rw [if_neg (by omega), List.getD_eq_getElem?_getD, hv]; rfl
theorem RowTo.at_ (h : RowTo b wd p cnt r N) : RowAtK b wd p cnt r 0 N := fun q v hv => by
  rw [h q v hv]
  by_cases h1 : q < r
  · rw [if_pos h1, if_pos h1]
  · rw [if_neg h1, if_neg h1]
    by_cases h2 : q = r
    · rw [if_pos h2, h2]; rfl
    · rw [if_neg h2]
theorem RowAtK.set (h : RowAtK b wd p cnt r k N) {v : Int} (hv : v = topK b wd p r (k + 1)) : RowAtK b wd p cnt r (k + 1) (N.set r v) := fun q u hu => by
  by_cases h1 : r = q
  · subst h1
    have hr : r < N.length := by have := (List.getElem?_eq_some_iff.1 hu).1; simpa using this
    rw [List.getElem?_set_self hr] at hu
    injection hu with hu
    rw [if_neg (by omega), if_pos rfl, ← hu, hv]
  · rw [List.getElem?_set_ne h1] at hu
    rw [h q u hu]
    by_cases h2 : q < r
    · rw [if_pos h2, if_pos h2]
    · rw [if_neg h2, if_neg h2, if_neg (by omega), if_neg (by omega)]
theorem RowAtK.done (h : RowAtK b wd p cnt r k N) (hk : topK b wd p r cnt = topK b wd p r k) : RowTo b wd p cnt (r + 1) N := fun q u hu => by
  rw [h q u hu]
  by_cases h1 : q < r
  · rw [if_pos h1, if_pos (by omega)]
  · rw [if_neg h1]
    by_cases h2 : q = r
    · rw [if_pos h2, if_pos (by omega), h2, hk]
    · rw [if_neg h2, if_neg (by omega)]
theorem RowTo.all (h : RowTo b wd p cnt r N) (hl : N.length = b.length) (hr : r = b.length) : N = rowK b wd p cnt := List.ext_getElem? fun q => by
  rcases Nat.lt_or_ge q b.length with h1 | h1
  · rw [rowK_get h1, List.getElem?_eq_getElem (by omega)]
    congr 1
    have := h q _ (List.getElem?_eq_getElem (by omega))
    rw [if_pos (by omega)] at this
    exact this
  · rw [List.getElem?_eq_none (by omega), List.getElem?_eq_none (by rw [rowK_len]; exact h1)]
end
end Go.Proofs.YtkcfalehebacpaaDoor

/- What a call has turned: blocks of a set, and new ones. -/
namespace Go.Proofs.YtkcfalehebacpaaDoor
open Go.RowKit
structure Chg (S : Nat → Prop) (w w' : World) : Prop where
  os : w'.os = w.os
  tape : w'.tape = w.tape
  output : w'.output = w.output
  size : w.heap.size ≤ w'.heap.size
  block : ∀ k, k < w.heap.size → ¬ S k → w'.heap[k]? = w.heap[k]?
section
variable {S : Nat → Prop} {a b c w w' : World}
theorem Chg.refl (S : Nat → Prop) (w : World) : Chg S w w := ⟨rfl, rfl, rfl, Nat.le_refl _, fun _ _ _ => rfl⟩
theorem Chg.trans (h : Chg S a b) (k : Chg S b c) : Chg S a c :=
  ⟨k.os.trans h.os, k.tape.trans h.tape, k.output.trans h.output, Nat.le_trans h.size k.size, fun i hi hn => (k.block i (Nat.lt_of_lt_of_le hi h.size) hn).trans (h.block i hi hn)⟩
theorem Chg.mono {T : Nat → Prop} (h : Chg S a b) (hST : ∀ k, k < a.heap.size → S k → T k) : Chg T a b := ⟨h.os, h.tape, h.output, h.size, fun i hi hn => h.block i hi fun hs => hn (hST i hi hs)⟩
theorem Chg.trans' {T : Nat → Prop} (h : Chg S a b) (k : Chg T b c) (hT : ∀ i, i < a.heap.size → T i → S i) : Chg S a c :=
  ⟨k.os.trans h.os, k.tape.trans h.tape, k.output.trans h.output, Nat.le_trans h.size k.size, fun i hi hn => (k.block i (Nat.lt_of_lt_of_le hi h.size) fun ht => hn (hT i hi ht)).trans (h.block i hi hn)⟩
theorem Chg.of_below (h : Below a.heap.size a b) : Chg S a b := ⟨h.os, h.tape, h.output, h.size, fun i hi _ => h.block i hi⟩
theorem Chg.of_grown {r : Nat} (h : a.grownBy b (some r)) (hr : S r) : Chg S a b := ⟨h.os, h.tape, h.output, h.size, fun i hi hn => h.block i hi fun e => hn (by injection e with e; exact e ▸ hr)⟩
theorem Chg.to_below {B : Nat} (h : Chg S a b) (hB : B ≤ a.heap.size) (hS : ∀ k, k < B → ¬ S k) : Below B a b := ⟨h.os, h.tape, h.output, h.size, fun i hi => h.block i (by omega) (hS i hi)⟩
theorem Chg.drew (h : Chg S a b) : Chg S a b.drew := ⟨h.os, h.tape, h.output, h.size, h.block⟩
theorem Chg.alloc (h : Chg S a b) (o : Obj) : Chg S a (b.alloc o) := h.trans (.of_below ((Below.refl _ _).alloc (Nat.le_refl _) o))
theorem Chg.setCell (h : Chg S a b) {p : Addr} (hp : S p.block ∨ a.heap.size ≤ p.block) (u : Value) : Chg S a (b.setCell p u) :=
  ⟨h.os, h.tape, h.output, by simpa [World.setCell] using h.size, fun i hi hn => (Below.heap_setCell b p u i (by
    rintro rfl
    rcases hp with hp | hp
    · exact hn hp
    · omega)).trans (h.block i hi hn)⟩
end
theorem Blk.chg {S : Nat → Prop} {w w' : World} {b : Nat} {t : TypeId} {cs : Array Value} (h : Blk w b t cs) (hc : Chg S w w') (hn : ¬ S b) : Blk w' b t cs := (hc.block b h.lt hn).trans h
theorem Blk.chg1 {g : Nat} {w w' : World} {b : Nat} {t : TypeId} {cs : Array Value} (h : Blk w b t cs) (hc : Chg (fun k => k = g) w w') (hn : b ≠ g) : Blk w' b t cs := (hc.block b h.lt hn).trans h
theorem Chg.below1 {g B : Nat} {w w' : World} (hc : Chg (fun k => k = g) w w') (hB : B ≤ w.heap.size) (hg : B ≤ g) : Below B w w' := hc.to_below hB fun k hk he => by subst he; omega
theorem Chg.set1 {w : World} {g i : Nat} (u : Value) : Chg (fun k => k = g) w (w.setCell ⟨g, i, none⟩ u) := (Chg.refl (fun k => k = g) w).setCell (p := ⟨g, i, none⟩) (.inl rfl) u
theorem Chg.row1 {w : World} {g : Nat} (cs : Array Value) : Chg (fun k => k = g) w (w.setRow g cs) := ⟨rfl, rfl, rfl, by simp, fun k _ hk => setRow_other w g k cs hk⟩
theorem Chg.of_below' {S : Nat → Prop} {B : Nat} {a b : World} (h : Below B a b) (hS : ∀ k, B ≤ k → k < a.heap.size → S k) : Chg S a b := ⟨h.os, h.tape, h.output, h.size, fun i hi hn => h.block i (by
  rcases Nat.lt_or_ge i B with h1 | h1
  · exact h1
  · exact absurd (hS i h1 hi) hn)⟩
end Go.Proofs.YtkcfalehebacpaaDoor

/- Bits of small numbers, as the walk spells them. -/
namespace Go.Proofs.YtkcfalehebacpaaDoor
open Go Go.RowKit
/-- pieces that go into n rolls of a width -/
def Packs (R : Int) (ws : List Int) (n : Nat) : Prop := ∃ gs : List (List Int), gs.length = n ∧ gs.flatten.Perm ws ∧ ∀ g ∈ gs, g.sum ≤ R
def LeastPk (R : Int) (ws : List Int) (n : Nat) : Prop := Packs R ws n ∧ ∀ m, Packs R ws m → n ≤ m
theorem LeastPk.one {R : Int} {ws : List Int} {n m : Nat} (h : LeastPk R ws n) (g : LeastPk R ws m) : n = m := Nat.le_antisymm (h.2 m g.1) (g.2 n h.1)
theorem Packs.perm {R : Int} {ws ws' : List Int} {n : Nat} (h : Packs R ws n) (hp : ws.Perm ws') : Packs R ws' n := by
  obtain ⟨gs, h1, h2, h3⟩ := h
  exact ⟨gs, h1, h2.trans hp, h3⟩
theorem LeastPk.perm {R : Int} {ws ws' : List Int} {n : Nat} (h : LeastPk R ws n) (hp : ws.Perm ws') : LeastPk R ws' n := ⟨h.1.perm hp, fun m hm => h.2 m (hm.perm hp.symm)⟩
theorem perm_sumW {l m : List Int} (h : l.Perm m) : l.sum = m.sum := by
  induction h with
  | nil => rfl
  | cons x _ ih => rw [List.sum_cons, List.sum_cons, ih]
  | swap x y l => rw [List.sum_cons, List.sum_cons, List.sum_cons, List.sum_cons]; omega
  | trans _ _ h1 h2 => exact h1.trans h2
theorem Packs.nil_ (R : Int) : Packs R [] 0 := ⟨[], rfl, List.Perm.refl _, fun _ h => (by cases h)⟩
theorem Packs.zero {R : Int} {ws : List Int} (h : Packs R ws 0) : ws = [] := by
  obtain ⟨gs, h1, h2, _⟩ := h
  have : gs = [] := List.length_eq_zero_iff.1 h1
  subst this
  exact h2.symm.eq_nil
/-- one group more -/
theorem Packs.add {R : Int} {A B ws : List Int} {n : Nat} (h : Packs R B n) (hs : A.sum ≤ R) (hp : (A ++ B).Perm ws) : Packs R ws (n + 1) := by
  obtain ⟨gs, h1, h2, h3⟩ := h
  refine ⟨A :: gs, by rw [List.length_cons, h1], ?_, fun g hg => ?_⟩
  · rw [List.flatten_cons]
    exact (h2.append_left A).trans hp
  · rcases List.mem_cons.1 hg with rfl | hg
    · exact hs
    · exact h3 g hg
/-- one group taken out, which has a piece -/
theorem Packs.take_ {R : Int} : ∀ {gs : List (List Int)} {ws : List Int}, gs.flatten.Perm ws → (∀ g ∈ gs, g.sum ≤ R) → ws ≠ [] → ∃ A B m, A ≠ [] ∧ A.sum ≤ R ∧ (A ++ B).Perm ws ∧ Packs R B m ∧ m + 1 ≤ gs.length
  | [], ws, h, _, hne => absurd h.symm.eq_nil hne
  | g :: gs, ws, h, hR, hne => by
    rw [List.flatten_cons] at h
    by_cases hg : g = []
    · subst hg
      rw [List.nil_append] at h
      obtain ⟨A, B, m, a1, a2, a3, a4, a5⟩ := Packs.take_ h (fun x hx => hR x (List.mem_cons_of_mem _ hx)) hne
      exact ⟨A, B, m, a1, a2, a3, a4, by rw [List.length_cons]; omega⟩
    · exact ⟨g, gs.flatten, gs.length, hg, hR g (List.mem_cons_self ..), h, ⟨gs, rfl, List.Perm.refl _, fun x hx => hR x (List.mem_cons_of_mem _ hx)⟩, by rw [List.length_cons]; exact Nat.le_refl _⟩
theorem Packs.some_ {R : Int} : ∀ {ws : List Int}, (∀ w ∈ ws, w ≤ R) → Packs R ws ws.length
  | [], _ => Packs.nil_ R
  | w :: ws, h => (Packs.some_ fun x hx => h x (List.mem_cons_of_mem _ hx)).add (A := [w]) (by simpa using h w (List.mem_cons_self ..)) (List.Perm.refl _)
theorem Packs.more {R : Int} (hR : 0 ≤ R) {ws : List Int} {n : Nat} (h : Packs R ws n) : Packs R ws (n + 1) := h.add (A := []) (by simpa using hR) (List.Perm.refl _)
theorem Packs.mono {R : Int} (hR : 0 ≤ R) {ws : List Int} {n : Nat} (h : Packs R ws n) : ∀ {m : Nat}, n ≤ m → Packs R ws m
  | 0, hm => by
    obtain rfl : n = 0 := by omega
    exact h
  | m + 1, hm => by
    rcases Nat.lt_or_ge n (m + 1) with h1 | h1
    · exact (Packs.mono hR h (by omega)).more hR
    · obtain rfl : n = m + 1 := by omega
      exact h
/-! subsets by bits -/
def subW : List Int → Nat → List Int
  | [], _ => []
  | w :: ws, s => if s % 2 = 1 then w :: subW ws (s / 2) else subW ws (s / 2)
/-- the bits of a that lie in s -/
def Sub (a s : Nat) : Prop := a &&& s = a
theorem and_half (a b : Nat) : (a &&& b) / 2 = a / 2 &&& b / 2 := by
  apply Nat.eq_of_testBit_eq
  intro i
  rw [Nat.testBit_div_two, Nat.testBit_and, Nat.testBit_and, Nat.testBit_div_two, Nat.testBit_div_two]
theorem and_odd (a b : Nat) : (a &&& b) % 2 = (if a % 2 = 1 ∧ b % 2 = 1 then 1 else 0) := by
  have h := Nat.testBit_and a b 0
  rw [Nat.testBit_zero, Nat.testBit_zero, Nat.testBit_zero] at h
  rcases Nat.mod_two_eq_zero_or_one a with ha | ha <;> rcases Nat.mod_two_eq_zero_or_one b with hb | hb <;> rcases Nat.mod_two_eq_zero_or_one (a &&& b) with hc | hc <;> simp [ha, hb, hc] at h ⊢
theorem Sub.half {a s : Nat} (h : Sub a s) : Sub (a / 2) (s / 2) := by
  unfold Sub at *
  rw [← and_half, h]
theorem Sub.bit {a s : Nat} (h : Sub a s) : a % 2 = 1 → s % 2 = 1 := fun ha => by
  unfold Sub at h
  have := and_odd a s
  rw [h] at this
  by_cases hs : a % 2 = 1 ∧ s % 2 = 1
  · exact hs.2
  · rw [if_neg hs] at this; omega
theorem Sub.of {a s : Nat} (h : Sub (a / 2) (s / 2)) (hb : a % 2 = 1 → s % 2 = 1) : Sub a s := by
  unfold Sub at *
  have h1 := and_half a s
  have h2 := and_odd a s
  rw [h] at h1
  have : (a &&& s) % 2 = a % 2 := by
    rw [h2]
    rcases Nat.mod_two_eq_zero_or_one a with ha | ha
    · rw [if_neg (by omega), ha]
    · rw [if_pos ⟨ha, hb ha⟩, ha]
  omega
theorem Sub.zero (s : Nat) : Sub 0 s := by unfold Sub; exact Nat.zero_and s
theorem Sub.le {a s : Nat} (h : Sub a s) : a ≤ s := by unfold Sub at h; rw [← h]; exact Nat.and_le_right
/-- the next part behind one: no part is left out -/
theorem sub_next {s : Nat} : ∀ (part : Nat) {q s : Nat}, Sub q s → Sub part s → q < part → q ≤ (part - 1) &&& s
  | part, q, s, hq, hp, hlt => by
    have hp0 : part ≠ 0 := by omega
    have h1 := and_half (part - 1) s
    have h2 := and_odd (part - 1) s
    rcases Nat.mod_two_eq_zero_or_one part with he | ho
    · have hlt2 : q / 2 < part / 2 := by omega
      have ih := sub_next (s := s) (part / 2) hq.half hp.half hlt2
      rw [show (part - 1) / 2 = part / 2 - 1 by omega] at h1
      rw [← h1] at ih
      have hb := hq.bit
      rcases Nat.mod_two_eq_zero_or_one q with hq0 | hq1
      · omega
      · rw [if_pos ⟨by omega, hb hq1⟩] at h2
        omega
    · have h3 : (part - 1) / 2 = part / 2 := by omega
      have h4 : part / 2 &&& s / 2 = part / 2 := hp.half
      rw [h3, h4] at h1
      omega
  termination_by part => part
  decreasing_by omega
theorem sub_and (a s : Nat) : Sub (a &&& s) s := by unfold Sub; rw [Nat.and_assoc, Nat.and_self]
theorem Sub.diff {p s : Nat} (h : Sub p s) : (s - p) / 2 = s / 2 - p / 2 ∧ (s - p) % 2 = s % 2 - p % 2 := by
  have h1 := h.le
  have h2 := h.half.le
  have h3 := h.bit
  rcases Nat.mod_two_eq_zero_or_one p with h4 | h4
  · omega
  · have := h3 h4; omega
theorem subW_zero : ∀ ws : List Int, subW ws 0 = []
  | [] => rfl
  | w :: ws => by rw [subW, if_neg (by decide)]; exact subW_zero ws
theorem subW_len : ∀ (ws : List Int) (s : Nat), (subW ws s).length ≤ ws.length
  | [], _ => by simp [subW]
  | w :: ws, s => by
    have := subW_len ws (s / 2)
    rw [subW]
    split <;> simp <;> omega
theorem subW_mem : ∀ {ws : List Int} {s : Nat} {w : Int}, w ∈ subW ws s → w ∈ ws
  | [], _, _, h => by cases h
  | x :: ws, s, w, h => by
    rw [subW] at h
    split at h
    · rcases List.mem_cons.1 h with rfl | h
      · exact List.mem_cons_self ..
      · exact List.mem_cons_of_mem _ (subW_mem h)
    · exact List.mem_cons_of_mem _ (subW_mem h)
theorem subW_ne : ∀ {ws : List Int} {s : Nat}, s < 2 ^ ws.length → s ≠ 0 → subW ws s ≠ []
  | [], s, h, h0 => by simp at h; omega
  | w :: ws, s, h, h0 => by
    rw [List.length_cons, Nat.pow_succ] at h
    rw [subW]
    split
    · simp
    · exact subW_ne (by omega) (by omega)
theorem subW_full : ∀ ws : List Int, subW ws (2 ^ ws.length - 1) = ws
  | [] => rfl
  | w :: ws => by
    have h := Nat.pos_of_ne_zero (show 2 ^ ws.length ≠ 0 from Nat.pos_iff_ne_zero.1 (Nat.two_pow_pos _))
    rw [List.length_cons, Nat.pow_succ, subW, if_pos (by omega), show (2 ^ ws.length * 2 - 1) / 2 = 2 ^ ws.length - 1 by omega, subW_full ws]
/-- a subset and what it leaves -/
theorem subW_join : ∀ (ws : List Int) {p s : Nat}, Sub p s → (subW ws p ++ subW ws (s - p)).Perm (subW ws s)
  | [], _, _, _ => List.Perm.refl _
  | w :: ws, p, s, h => by
    have ih := subW_join ws h.half
    obtain ⟨d1, d2⟩ := h.diff
    have hb := h.bit
    rw [subW, subW, subW, d1]
    rcases Nat.mod_two_eq_zero_or_one p with h4 | h4
    · rw [if_neg (by omega)]
      rcases Nat.mod_two_eq_zero_or_one s with h5 | h5
      · rw [if_neg (by omega), if_neg (by omega)]; exact ih
      · rw [if_pos (by omega), if_pos h5]
        exact List.perm_middle.trans (ih.cons w)
    · have h5 := hb h4
      rw [if_pos h4, if_neg (by omega), if_pos h5]
      exact ih.cons w
/-- a group of a subset's pieces is a subset -/
theorem subW_split : ∀ (ws : List Int) {s : Nat} {A B : List Int}, (A ++ B).Perm (subW ws s) → s < 2 ^ ws.length → ∃ p, Sub p s ∧ (subW ws p).Perm A ∧ (subW ws (s - p)).Perm B
  | [], s, A, B, h, hs => by
    have h2 : A ++ B = [] := h.eq_nil
    obtain ⟨rfl, rfl⟩ := List.append_eq_nil_iff.1 h2
    simp at hs
    subst hs
    exact ⟨0, Sub.zero 0, List.Perm.refl _, List.Perm.refl _⟩
  | w :: ws, s, A, B, h, hs => by
    rw [List.length_cons, Nat.pow_succ] at hs
    have hs2 : s / 2 < 2 ^ ws.length := by omega
    rw [subW] at h
    rcases Nat.mod_two_eq_zero_or_one s with h5 | h5
    · rw [if_neg (by omega)] at h
      obtain ⟨p, h1, h2, h3⟩ := subW_split ws h hs2
      have hsub : Sub (2 * p) s := Sub.of (by rw [show 2 * p / 2 = p by omega]; exact h1) (by omega)
      obtain ⟨d1, d2⟩ := hsub.diff
      refine ⟨2 * p, hsub, ?_, ?_⟩
      · rw [subW, if_neg (by omega), show 2 * p / 2 = p by omega]; exact h2
      · rw [subW, if_neg (by omega), d1, show 2 * p / 2 = p by omega]; exact h3
    · rw [if_pos h5] at h
      have hm : w ∈ A ++ B := h.symm.subset (List.mem_cons_self ..)
      rcases List.mem_append.1 hm with hA | hB
      · have h6 := List.perm_cons_erase hA
        have h7 : (A.erase w ++ B).Perm (subW ws (s / 2)) := List.Perm.cons_inv (((h6.append_right B).symm).trans h)
        obtain ⟨p, h1, h2, h3⟩ := subW_split ws h7 hs2
        have hsub : Sub (2 * p + 1) s := Sub.of (by rw [show (2 * p + 1) / 2 = p by omega]; exact h1) (fun _ => h5)
        obtain ⟨d1, d2⟩ := hsub.diff
        refine ⟨2 * p + 1, hsub, ?_, ?_⟩
        · rw [subW, if_pos (by omega), show (2 * p + 1) / 2 = p by omega]
          exact (h2.cons w).trans h6.symm
        · rw [subW, if_neg (by omega), d1, show (2 * p + 1) / 2 = p by omega]; exact h3
      · have h6 := List.perm_cons_erase hB
        have h7 : (A ++ B.erase w).Perm (subW ws (s / 2)) := by
          refine List.Perm.cons_inv (a := w) ?_
          exact (List.perm_middle.symm.trans ((h6.symm).append_left A)).trans h
        obtain ⟨p, h1, h2, h3⟩ := subW_split ws h7 hs2
        have hsub : Sub (2 * p) s := Sub.of (by rw [show 2 * p / 2 = p by omega]; exact h1) (by omega)
        obtain ⟨d1, d2⟩ := hsub.diff
        refine ⟨2 * p, hsub, ?_, ?_⟩
        · rw [subW, if_neg (by omega), show 2 * p / 2 = p by omega]; exact h2
        · rw [subW, if_pos (by omega), d1, show 2 * p / 2 = p by omega]
          exact (h3.cons w).trans h6.symm
theorem subW_snoc : ∀ {ws : List Int} {i : Nat} {w : Int} (s : Nat), ws[i]? = some w → subW (ws.take (i + 1)) s = subW (ws.take i) s ++ if s / 2 ^ i % 2 = 1 then [w] else []
  | [], _, _, _, h => by simp at h
  | x :: ws, 0, w, s, h => by
    simp at h
    subst h
    simp [subW]
  | x :: ws, i + 1, w, s, h => by
    have ih := subW_snoc (ws := ws) (i := i) (s / 2) (by simpa using h)
    rw [List.take_succ_cons, List.take_succ_cons, subW, subW, ih, Nat.pow_succ, Nat.mul_comm, ← Nat.div_div_eq_div_mul]
    split <;> rfl
/-! the table -/
/-- where the search over the parts stands: those above p are done -/
structure PartInv (R : Int) (ws : List Int) (s p v : Nat) : Prop where
  some_ : Packs R (subW ws s) v
  few : v ≤ ws.length
  low : ∀ q, Sub q s → p < q → (subW ws q).sum ≤ R → ∀ m, Packs R (subW ws (s - q)) m → v ≤ m + 1
theorem PartInv.start {R : Int} {ws : List Int} {s : Nat} (hR : 0 ≤ R) (h : ∀ w ∈ ws, w ≤ R) : PartInv R ws s s ws.length :=
  ⟨(Packs.some_ fun w hw => h w (subW_mem hw)).mono hR (subW_len ws s), Nat.le_refl _, fun q hq hlt => by have := hq.le; omega⟩
theorem PartInv.skip {R : Int} {ws : List Int} {s p v : Nat} (h : PartInv R ws s p v) (hp : Sub p s) (hn : ¬ (subW ws p).sum ≤ R) : PartInv R ws s ((p - 1) &&& s) v :=
  ⟨h.some_, h.few, fun q hq hlt hs m hm => by
    rcases Nat.lt_or_ge p q with h1 | h1
    · exact h.low q hq h1 hs m hm
    · rcases Nat.lt_or_ge q p with h2 | h2
      · have := sub_next (s := s) p hq hp h2; omega
      · obtain rfl : q = p := by omega
        exact absurd hs hn⟩
theorem PartInv.take {R : Int} {ws : List Int} {s p v u : Nat} (h : PartInv R ws s p v) (hp : Sub p s) (hs : (subW ws p).sum ≤ R) (hu : LeastPk R (subW ws (s - p)) u) : PartInv R ws s ((p - 1) &&& s) (min v (u + 1)) := by
  have hpk : Packs R (subW ws s) (u + 1) := hu.1.add hs (subW_join ws hp)
  refine ⟨?_, by have := h.few; omega, fun q hq hlt hs2 m hm => ?_⟩
  · rcases Nat.le_total v (u + 1) with h1 | h1
    · rw [Nat.min_eq_left h1]; exact h.some_
    · rw [Nat.min_eq_right h1]; exact hpk
  · rcases Nat.lt_or_ge p q with h1 | h1
    · have := h.low q hq h1 hs2 m hm; omega
    · rcases Nat.lt_or_ge q p with h2 | h2
      · have := sub_next (s := s) p hq hp h2; omega
      · obtain rfl : q = p := by omega
        have := hu.2 m hm; omega
theorem PartInv.done {R : Int} {ws : List Int} {s v : Nat} (h : PartInv R ws s 0 v) (hs : s < 2 ^ ws.length) (h0 : s ≠ 0) : LeastPk R (subW ws s) v := by
  refine ⟨h.some_, fun m hm => ?_⟩
  obtain ⟨gs, g1, g2, g3⟩ := hm
  obtain ⟨A, B, k, a1, a2, a3, a4, a5⟩ := Packs.take_ g2 g3 (subW_ne hs h0)
  obtain ⟨p, p1, p2, p3⟩ := subW_split ws a3 hs
  have hp0 : 0 < p := by
    rcases Nat.eq_zero_or_pos p with h1 | h1
    · subst h1
      rw [subW_zero] at p2
      exact absurd p2.symm.eq_nil a1
    · exact h1
  have := h.low p p1 hp0 (by rw [perm_sumW p2]; exact a2) k (a4.perm p3.symm)
  omega
/-! the document's search -/
/-- pieces that go into rolls that are begun (their loads), and m further ones -/
def Fill (R : Int) (loads : List Int) (ws : List Int) (m : Nat) : Prop := ∃ gs : List (List Int), gs.length = loads.length + m ∧ gs.flatten.Perm ws ∧ ∀ (j : Nat) g, gs[j]? = some g → loads.getD j 0 + g.sum ≤ R
theorem fill_packs {R : Int} {ws : List Int} {n : Nat} : Fill R [] ws n ↔ Packs R ws n := by
  constructor
  · rintro ⟨gs, h1, h2, h3⟩
    refine ⟨gs, by simpa using h1, h2, fun g hg => ?_⟩
    obtain ⟨j, hj⟩ := List.getElem?_of_mem hg
    have := h3 j g hj
    simpa using this
  · rintro ⟨gs, h1, h2, h3⟩
    refine ⟨gs, by simpa using h1, h2, fun j g hj => ?_⟩
    have := h3 g (List.mem_of_getElem? hj)
    simpa using this
theorem fill_nil {R : Int} {loads : List Int} {m : Nat} (hR : 0 ≤ R) (h : ∀ x ∈ loads, x ≤ R) : Fill R loads [] m := by
  refine ⟨List.replicate (loads.length + m) [], by simp, by simp, fun j g hj => ?_⟩
  obtain rfl : g = [] := List.eq_of_mem_replicate (List.mem_of_getElem? hj)
  rw [List.sum_nil, Int.add_zero, List.getD_eq_getElem?_getD]
  cases e : loads[j]? with
  | none => exact hR
  | some x => exact h x (List.mem_of_getElem? e)
theorem sum_nonneg {l : List Int} (h : ∀ x ∈ l, 0 ≤ x) : 0 ≤ l.sum := by
  induction l with
  | nil => simp
  | cons x l ih =>
    have h1 := h x (List.mem_cons_self ..)
    have h2 := ih fun y hy => h y (List.mem_cons_of_mem _ hy)
    rw [List.sum_cons]; omega
theorem flat_set_perm {gs : List (List Int)} {j : Nat} {g g' : List Int} {w : Int} {ws : List Int} (hj : gs[j]? = some g) (hg : g.Perm (w :: g')) (h : gs.flatten.Perm (w :: ws)) : (gs.set j g').flatten.Perm ws := by
  obtain ⟨h1, h2⟩ := List.getElem?_eq_some_iff.1 hj
  refine List.Perm.cons_inv (a := w) (List.Perm.trans ?_ h)
  have e1 : gs = gs.take j ++ g :: gs.drop (j + 1) := by
    rw [← h2, ← List.drop_eq_getElem_cons h1, List.take_append_drop]
  have e2 : gs.set j g' = gs.take j ++ g' :: gs.drop (j + 1) := by
    rw [List.set_eq_take_append_cons_drop, if_pos h1]
  rw [e2]
  conv => rhs; rw [e1]
  rw [List.flatten_append, List.flatten_append, List.flatten_cons, List.flatten_cons]
  refine List.perm_middle.symm.trans (List.Perm.append_left _ ?_)
  exact (hg.symm.append_right _)
theorem fill_step {R : Int} {loads ws : List Int} {w : Int} {m : Nat} (hw : 0 ≤ w) (hws : ∀ x ∈ ws, 0 ≤ x) (h : Fill R loads (w :: ws) m) :
    (∃ j x, loads[j]? = some x ∧ x + w ≤ R ∧ Fill R (loads.set j (x + w)) ws m) ∨ (1 ≤ m ∧ w ≤ R ∧ Fill R (loads ++ [w]) ws (m - 1)) := by
  obtain ⟨gs, h1, h2, h3⟩ := h
  have hmem : w ∈ gs.flatten := h2.symm.subset (List.mem_cons_self ..)
  obtain ⟨g, hg, hwg⟩ := List.mem_flatten.1 hmem
  obtain ⟨j, hj⟩ := List.getElem?_of_mem hg
  have hjl := (List.getElem?_eq_some_iff.1 hj).1
  have hp := List.perm_cons_erase hwg
  have hf := flat_set_perm hj hp h2
  have hs : g.sum = w + (g.erase w).sum := by rw [perm_sumW hp, List.sum_cons]
  have hge : 0 ≤ (g.erase w).sum := sum_nonneg fun x hx => by
    have : x ∈ (gs.set j (g.erase w)).flatten := List.mem_flatten.2 ⟨_, List.mem_of_getElem? (List.getElem?_set_self hjl), hx⟩
    exact hws x (hf.subset this)
  have hsum := h3 j g hj
  rcases Nat.lt_or_ge j loads.length with hlt | hge2
  · left
    have hx : loads[j]? = some loads[j] := List.getElem?_eq_getElem hlt
    have hd : loads.getD j 0 = loads[j] := by rw [List.getD_eq_getElem?_getD, hx]; rfl
    rw [hd] at hsum
    refine ⟨j, loads[j], hx, by omega, gs.set j (g.erase w), by rw [List.length_set, List.length_set]; exact h1, hf, fun k u hk => ?_⟩
    rw [List.getElem?_set] at hk
    rw [List.getD_eq_getElem?_getD, List.getElem?_set]
    by_cases e : j = k
    · subst e
      rw [if_pos rfl, if_pos hjl] at hk
      rw [if_pos rfl, if_pos hlt]
      injection hk with hk
      subst hk
      show loads[j] + w + _ ≤ R
      omega
    · rw [if_neg e] at hk
      rw [if_neg e, ← List.getD_eq_getElem?_getD]
      exact h3 k u hk
  · right
    have hd : ∀ k, loads.length ≤ k → loads.getD k 0 = 0 := fun k hk => by rw [List.getD_eq_getElem?_getD, List.getElem?_eq_none hk]; rfl
    rw [hd j hge2] at hsum
    refine ⟨by omega, by omega, ?_⟩
    have h0l : loads.length < gs.length := by omega
    have h0 : gs[loads.length]? = some gs[loads.length] := List.getElem?_eq_getElem h0l
    have hw0 : ∀ k, (loads ++ [w]).getD k 0 = if k = loads.length then w else loads.getD k 0 := fun k => by
      rw [List.getD_eq_getElem?_getD, List.getD_eq_getElem?_getD]
      rcases Nat.lt_trichotomy k loads.length with h4 | h4 | h4
      · rw [List.getElem?_append_left h4, if_neg (by omega)]
      · subst h4
        rw [List.getElem?_append_right (Nat.le_refl _), Nat.sub_self, if_pos rfl]; rfl
      · rw [List.getElem?_eq_none (by rw [List.length_append, List.length_singleton]; omega), List.getElem?_eq_none (by omega), if_neg (by omega)]
    by_cases e0 : j = loads.length
    · subst e0
      refine ⟨gs.set loads.length (g.erase w), by rw [List.length_set, List.length_append, List.length_singleton]; omega, hf, fun k u hk => ?_⟩
      rw [List.getElem?_set] at hk
      rw [hw0]
      by_cases e : loads.length = k
      · subst e
        rw [if_pos rfl, if_pos hjl] at hk
        injection hk with hk
        subst hk
        rw [if_pos rfl]
        omega
      · rw [if_neg e] at hk
        rw [if_neg (Ne.symm e)]
        exact h3 k u hk
    · have hz1 : (gs.set j (g.erase w))[loads.length]? = some gs[loads.length] := by rw [List.getElem?_set, if_neg e0, h0]
      have hz2 : (gs.set j (g.erase w))[j]? = some (g.erase w) := List.getElem?_set_self hjl
      obtain ⟨y1, y2⟩ := List.getElem?_eq_some_iff.1 hz1
      obtain ⟨y3, y4⟩ := List.getElem?_eq_some_iff.1 hz2
      have hsw := List.set_set_perm y1 y3
      rw [y2, y4] at hsw
      refine ⟨_, by rw [List.length_set, List.length_set, List.length_set, List.length_append, List.length_singleton]; omega, (List.Perm.flatten hsw).trans hf, fun k u hk => ?_⟩
      rw [List.getElem?_set, List.getElem?_set, List.getElem?_set] at hk
      rw [hw0]
      have hL := h3 loads.length _ h0
      rw [hd _ (Nat.le_refl _)] at hL
      by_cases e1 : j = k
      · subst e1
        rw [if_pos rfl] at hk
        rw [if_neg e0, hd j hge2]
        split at hk
        · injection hk with hk
          subst hk
          exact hL
        · cases hk
      · rw [if_neg e1] at hk
        by_cases e2 : loads.length = k
        · subst e2
          rw [if_pos rfl] at hk
          rw [if_pos rfl]
          rw [if_pos (by rw [List.length_set]; exact h0l)] at hk
          injection hk with hk
          subst hk
          omega
        · rw [if_neg e2, if_neg e1] at hk
          rw [if_neg (Ne.symm e2)]
          exact h3 k u hk
theorem fill_here {R : Int} {loads ws : List Int} {w x : Int} {m j : Nat} (hj : loads[j]? = some x) (h : Fill R (loads.set j (x + w)) ws m) : Fill R loads (w :: ws) m := by
  obtain ⟨gs, h1, h2, h3⟩ := h
  have hjl := (List.getElem?_eq_some_iff.1 hj).1
  rw [List.length_set] at h1
  have hg : gs[j]? = some (gs[j]'(by omega)) := List.getElem?_eq_getElem (by omega)
  generalize gs[j]'(by omega) = g at hg
  obtain ⟨p1, p2⟩ := List.getElem?_eq_some_iff.1 hg
  refine ⟨gs.set j (w :: g), by rw [List.length_set]; exact h1, ?_, fun k u hk => ?_⟩
  · have e1 : gs = gs.take j ++ g :: gs.drop (j + 1) := by rw [← p2, ← List.drop_eq_getElem_cons p1, List.take_append_drop]
    rw [List.set_eq_take_append_cons_drop, if_pos p1]
    rw [e1] at h2
    rw [List.flatten_append, List.flatten_cons] at h2 ⊢
    exact List.perm_middle.trans (h2.cons w)
  · rw [List.getElem?_set] at hk
    by_cases e : j = k
    · subst e
      rw [if_pos rfl, if_pos p1] at hk
      injection hk with hk
      subst hk
      have h4 := h3 j g hg
      rw [List.getD_eq_getElem?_getD, List.getElem?_set_self hjl] at h4
      rw [List.getD_eq_getElem?_getD, hj, List.sum_cons]
      have h5 : x + w + g.sum ≤ R := h4
      show x + (w + g.sum) ≤ R
      omega
    · rw [if_neg e] at hk
      have h4 := h3 k u hk
      rw [List.getD_eq_getElem?_getD, List.getElem?_set, if_neg e, ← List.getD_eq_getElem?_getD] at h4
      exact h4
theorem fill_new {R : Int} {loads ws : List Int} {w : Int} {m : Nat} (hm : 1 ≤ m) (h : Fill R (loads ++ [w]) ws (m - 1)) : Fill R loads (w :: ws) m := by
  obtain ⟨gs, h1, h2, h3⟩ := h
  rw [List.length_append, List.length_singleton] at h1
  have hj : loads.length < gs.length := by omega
  have hg : gs[loads.length]? = some gs[loads.length] := List.getElem?_eq_getElem hj
  generalize gs[loads.length] = g at hg
  obtain ⟨p1, p2⟩ := List.getElem?_eq_some_iff.1 hg
  have hw0 : ∀ k, k ≠ loads.length → (loads ++ [w]).getD k 0 = loads.getD k 0 := fun k hk => by
    rw [List.getD_eq_getElem?_getD, List.getD_eq_getElem?_getD]
    rcases Nat.lt_or_ge k loads.length with h4 | h4
    · rw [List.getElem?_append_left h4]
    · rw [List.getElem?_eq_none (by rw [List.length_append, List.length_singleton]; omega), List.getElem?_eq_none h4]
  refine ⟨gs.set loads.length (w :: g), by rw [List.length_set]; omega, ?_, fun k u hk => ?_⟩
  · have e1 : gs = gs.take loads.length ++ g :: gs.drop (loads.length + 1) := by rw [← p2, ← List.drop_eq_getElem_cons p1, List.take_append_drop]
    rw [List.set_eq_take_append_cons_drop, if_pos p1]
    rw [e1] at h2
    rw [List.flatten_append, List.flatten_cons] at h2 ⊢
    exact List.perm_middle.trans (h2.cons w)
  · rw [List.getElem?_set] at hk
    by_cases e : loads.length = k
    · subst e
      rw [if_pos rfl, if_pos p1] at hk
      injection hk with hk
      subst hk
      have h4 := h3 loads.length g hg
      rw [List.getD_eq_getElem?_getD, List.getElem?_append_right (Nat.le_refl _), Nat.sub_self] at h4
      have h5 : w + g.sum ≤ R := h4
      rw [List.getD_eq_getElem?_getD, List.getElem?_eq_none (Nat.le_refl _), List.sum_cons]
      show 0 + (w + g.sum) ≤ R
      omega
    · rw [if_neg e] at hk
      have h4 := h3 k u hk
      rw [hw0 k (Ne.symm e)] at h4
      exact h4
/-! more room, less kerf, fewer pieces -/
theorem Packs.wide {R R' : Int} {ws : List Int} {n : Nat} (h : Packs R ws n) (hR : R ≤ R') : Packs R' ws n := by
  obtain ⟨gs, h1, h2, h3⟩ := h
  exact ⟨gs, h1, h2, fun g hg => Int.le_trans (h3 g hg) hR⟩
theorem sum_map_sub (d : Int) : ∀ g : List Int, (g.map (· - d)).sum = g.sum - d * g.length
  | [] => by simp
  | x :: g => by
    rw [List.map_cons, List.sum_cons, sum_map_sub d g, List.sum_cons, List.length_cons]
    push_cast
    rw [Int.mul_add]; omega
/-- every piece narrower by d, the roll too -/
theorem Packs.thin {R d : Int} {ws : List Int} {n : Nat} (hd : 0 ≤ d) (hR : 0 ≤ R - d) (h : Packs R ws n) : Packs (R - d) (ws.map (· - d)) n := by
  obtain ⟨gs, h1, h2, h3⟩ := h
  refine ⟨gs.map (·.map (· - d)), by rw [List.length_map, h1], ?_, fun g hg => ?_⟩
  · have := h2.map (· - d)
    rwa [List.map_flatten] at this
  · obtain ⟨x, hx, rfl⟩ := List.mem_map.1 hg
    rw [sum_map_sub]
    rcases x with _ | ⟨y, x⟩
    · simpa using hR
    · have := h3 _ hx
      have h4 : d ≤ d * ((y :: x).length : Int) := by
        rw [List.length_cons]; push_cast; rw [Int.mul_add]
        have := Int.mul_nonneg hd (show (0 : Int) ≤ (x.length : Int) by omega)
        omega
      omega
theorem flatten_erase {w : Int} {gs : List (List Int)} {ws : List Int} (h : gs.flatten.Perm (w :: ws)) : ∃ (j : Nat) (g : List Int), gs[j]? = some g ∧ w ∈ g := by
  have hmem : w ∈ gs.flatten := h.symm.subset (List.mem_cons_self ..)
  obtain ⟨g, hg, hwg⟩ := List.mem_flatten.1 hmem
  obtain ⟨j, hj⟩ := List.getElem?_of_mem hg
  exact ⟨j, g, hj, hwg⟩
theorem Packs.drop1 {R : Int} {ws : List Int} {w : Int} {n : Nat} (hw : 0 ≤ w) (h : Packs R (w :: ws) n) : Packs R ws n := by
  obtain ⟨gs, h1, h2, h3⟩ := h
  obtain ⟨j, g, hj, hwg⟩ := flatten_erase h2
  have hp := List.perm_cons_erase hwg
  have hs : g.sum = w + (g.erase w).sum := by rw [perm_sumW hp, List.sum_cons]
  refine ⟨gs.set j (g.erase w), by rw [List.length_set, h1], flat_set_perm hj hp h2, fun x hx => ?_⟩
  rcases List.mem_or_eq_of_mem_set hx with h4 | h4
  · exact h3 x h4
  · subst h4
    have := h3 g (List.mem_of_getElem? hj)
    omega
theorem Packs.drop {R : Int} : ∀ {xs ws : List Int} {n : Nat}, (∀ x ∈ xs, 0 ≤ x) → Packs R (xs ++ ws) n → Packs R ws n
  | [], _, _, _, h => h
  | x :: xs, ws, n, hx, h => Packs.drop (xs := xs) (fun y hy => hx y (List.mem_cons_of_mem _ hy)) (Packs.drop1 (hx x (List.mem_cons_self ..)) h)
theorem least_exists {R : Int} {ws : List Int} (h : ∀ w ∈ ws, w ≤ R) : ∃ n, LeastPk R ws n ∧ n ≤ ws.length := by
  classical
  have hex : ∃ n, Packs R ws n := ⟨_, Packs.some_ h⟩
  have key : ∀ k, Packs R ws k → ∃ n, LeastPk R ws n ∧ n ≤ k := by
    intro k
    induction k with
    | zero => exact fun hk => ⟨0, ⟨hk, fun m _ => Nat.zero_le _⟩, Nat.le_refl _⟩
    | succ k ih =>
      intro hk
      by_cases h2 : ∃ m, m < k + 1 ∧ Packs R ws m
      · obtain ⟨m, hm, hp⟩ := h2
        by_cases h3 : Packs R ws k
        · obtain ⟨n, h4, h5⟩ := ih h3
          exact ⟨n, h4, by omega⟩
        · have : ∀ j, ∀ m, m ≤ j → Packs R ws m → ∃ n, LeastPk R ws n ∧ n ≤ m := by
            intro j
            induction j with
            | zero => exact fun m hm hp => ⟨m, ⟨hp, fun q _ => by omega⟩, Nat.le_refl _⟩
            | succ j ihj =>
              intro m hm hp
              by_cases h6 : ∃ q, q < m ∧ Packs R ws q
              · obtain ⟨q, hq, hqp⟩ := h6
                obtain ⟨n, h7, h8⟩ := ihj q (by omega) hqp
                exact ⟨n, h7, by omega⟩
              · exact ⟨m, ⟨hp, fun q hq => Nat.le_of_not_lt fun hlt => h6 ⟨q, hlt, hq⟩⟩, Nat.le_refl _⟩
          obtain ⟨n, h7, h8⟩ := this m m (Nat.le_refl _) hp
          exact ⟨n, h7, by omega⟩
      · exact ⟨k + 1, ⟨hk, fun m hm => Nat.le_of_not_lt fun hlt => h2 ⟨m, hlt, hm⟩⟩, Nat.le_refl _⟩
  exact key _ (Packs.some_ h)
theorem wrap_small {n : Nat} (h : n < 4611686018427387904) : IntKind.i64.wrap (n : Int) = (n : Int) := IntWalk.i64_in _ (by omega)
theorem ofInt_nat (a : Nat) : BitVec.ofInt 64 (a : Int) = BitVec.ofNat 64 a := by
  apply BitVec.eq_of_toNat_eq
  simp
theorem bits_and {a b : Nat} (ha : a < 4611686018427387904) : bits .and .i64 (a : Int) (b : Int) = ((a &&& b : Nat) : Int) := by
  have h1 : a &&& b ≤ a := Nat.and_le_left
  have h2 : (BitVec.ofInt 64 (a : Int) &&& BitVec.ofInt 64 (b : Int)).toNat = a &&& b := by
    rw [ofInt_nat, ofInt_nat, BitVec.toNat_and, BitVec.toNat_ofNat, BitVec.toNat_ofNat, Nat.mod_eq_of_lt (show a < 2 ^ 64 by omega)]
    apply Nat.eq_of_testBit_eq
    intro i
    rw [Nat.testBit_and, Nat.testBit_and, Nat.testBit_mod_two_pow]
    by_cases hi : i < 64
    · simp [hi]
    · have : a.testBit i = false := Nat.testBit_lt_two_pow (Nat.lt_of_lt_of_le (show a < 2 ^ 64 by omega) (Nat.pow_le_pow_right (by omega) (by omega)))
      simp [this]
  show IntKind.i64.wrap ((BitVec.ofInt 64 (a : Int) &&& BitVec.ofInt 64 (b : Int)).toNat : Int) = _
  rw [h2]
  exact wrap_small (by omega)
theorem Sub.testBit {p : Nat} : ∀ (i : Nat) {p s : Nat}, Sub p s → (s - p).testBit i = (s.testBit i && !p.testBit i)
  | 0, p, s, h => by
    have h2 := h.diff.2
    have h3 := h.bit
    rw [Nat.testBit_zero, Nat.testBit_zero, Nat.testBit_zero, h2]
    rcases Nat.mod_two_eq_zero_or_one p with h4 | h4
    · simp [h4]
    · simp [h4, h3 h4]
  | i + 1, p, s, h => by
    have ih := Sub.testBit (p := p) i h.half
    rw [Nat.testBit_succ, h.diff.1, ih, Nat.testBit_succ, Nat.testBit_succ]
theorem bits_andNot {p s : Nat} (h : Sub p s) (hs : s < 4611686018427387904) : bits .andNot .i64 (s : Int) (p : Int) = ((s - p : Nat) : Int) := by
  have hle := h.le
  have h2 : (BitVec.ofInt 64 (s : Int) &&& ~~~BitVec.ofInt 64 (p : Int)).toNat = s - p := by
    rw [ofInt_nat, ofInt_nat]
    apply Nat.eq_of_testBit_eq
    intro i
    rw [h.testBit (p := p) i, BitVec.testBit_toNat, BitVec.getLsbD_and, BitVec.getLsbD_not, BitVec.getLsbD_ofNat, BitVec.getLsbD_ofNat]
    by_cases hi : i < 64
    · simp [hi]
    · have : s.testBit i = false := Nat.testBit_lt_two_pow (Nat.lt_of_lt_of_le (show s < 2 ^ 64 by omega) (Nat.pow_le_pow_right (by omega) (by omega)))
      simp [this]
  show IntKind.i64.wrap ((BitVec.ofInt 64 (s : Int) &&& ~~~BitVec.ofInt 64 (p : Int)).toNat : Int) = _
  rw [h2]
  exact wrap_small (by omega)
theorem bits_one {a : Nat} (ha : a < 4611686018427387904) : bits .and .i64 (a : Int) 1 = ((a % 2 : Nat) : Int) := by
  have h := bits_and (a := a) (b := 1) ha
  rw [Nat.and_one_is_mod] at h
  exact h
theorem pow_le10 {n : Nat} (h : n ≤ 10) : 2 ^ n ≤ 1024 := by
  have := Nat.pow_le_pow_right (show 0 < 2 by omega) h
  omega
end Go.Proofs.YtkcfalehebacpaaDoor
