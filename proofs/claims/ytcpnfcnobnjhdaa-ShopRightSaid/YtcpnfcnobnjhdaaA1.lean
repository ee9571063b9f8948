/- Parts of the proofs of this seat: Lib, Open, ShopP, Long, Region, ShopValid, ShopValid2, ShopValid3, Search, NextP. Each part says what it proves; no condition beyond those stated there. -/
import Derived.WalkKit
import Derived.Below
import Derived.Laws.OwnMore
import Derived.Laws.Rows
import Derived.Test.YtcpnfcnobnjhdaaRows
import Derived.Deep.Slices
import Derived.OpenShut
import Derived.ProofKit
import Derived.ShutString
import Derived.ChangeOld
import Derived.WalkLawsBesides
import Derived.WalkSpells
import Derived.Outline
import Derived.BigQuiet
import Derived.Deep.QuietTactic
import Derived.StillTail

/- Words on memory that all walks of this seat share: slices whose elements take a fixed number of cells. -/
namespace Go.Proofs.Ytcpnfcnobnjhdaa
open Go.RowKit

theorem hide {p : Prop} (h : p) : Hid p := h

/-- Element i of a slice whose elements take 'sz' cells reads as the cells 'vs', and lies below block B. -/
def RowAt (w : World) (B : Nat) (A : Option Addr) (sz i : Nat) (vs : List Value) : Prop :=
  ∃ b off, A = some ⟨b, off, none⟩ ∧ b < B ∧ ∀ j v, vs[j]? = some v → w.cell? ⟨b, off + i * sz + j, none⟩ = some v

theorem RowAt.keep {w w' : World} {B : Nat} {A : Option Addr} {sz i : Nat} {vs : List Value} (h : RowAt w B A sz i vs) (hk : ∀ p : Addr, p.block < B → w'.cell? p = w.cell? p) : RowAt w' B A sz i vs := by
  obtain ⟨b, off, rfl, hb, hc⟩ := h
  exact ⟨b, off, rfl, hb, fun j v hv => (hk _ hb).trans (hc j v hv)⟩

theorem RowAt.more {w : World} {B B' : Nat} {A : Option Addr} {sz i : Nat} {vs : List Value} (h : RowAt w B A sz i vs) (hB : B ≤ B') : RowAt w B' A sz i vs := by
  obtain ⟨b, off, rfl, hb, hc⟩ := h
  exact ⟨b, off, rfl, Nat.lt_of_lt_of_le hb hB, hc⟩

/-- A slice whose elements are told by 'enc'. -/
def Slc {α : Type} (enc : α → List Value) (sz : Nat) (w : World) (B : Nat) (A : Option Addr) (xs : List α) : Prop :=
  ∀ i x, xs[i]? = some x → RowAt w B A sz i (enc x)

section
variable {α : Type} {enc : α → List Value} {sz : Nat} {w w' : World} {B B' : Nat} {A : Option Addr} {xs : List α}
theorem Slc.nil_ : Slc enc sz w B A ([] : List α) := fun i x h => by simp at h
theorem Slc.keep (h : Slc enc sz w B A xs) (hk : ∀ p : Addr, p.block < B → w'.cell? p = w.cell? p) : Slc enc sz w' B A xs := fun i x hx => (h i x hx).keep hk
theorem Slc.below (h : Slc enc sz w B A xs) (hb : Below B w w') : Slc enc sz w' B A xs := h.keep fun _ hp => hb.cell hp
theorem Slc.more (h : Slc enc sz w B A xs) (hB : B ≤ B') : Slc enc sz w B' A xs := fun i x hx => (h i x hx).more hB
theorem Slc.at1 {k : Nat} {x : α} {v : Value} (h : Slc enc 1 w B A xs) (hk : xs[k]? = some x) (he : enc x = [v]) :
    ∃ b off, A = some ⟨b, off, none⟩ ∧ b < B ∧ w.cell? ⟨b, off + k, none⟩ = some v := by
  obtain ⟨b, off, ha, hb, hc⟩ := h k x hk
  exact ⟨b, off, ha, hb, by simpa using hc 0 v (by rw [he]; rfl)⟩
theorem Slc.at2 {k : Nat} {x : α} {v0 v1 : Value} (h : Slc enc 2 w B A xs) (hk : xs[k]? = some x) (he : enc x = [v0, v1]) :
    ∃ b off, A = some ⟨b, off, none⟩ ∧ b < B ∧ w.cell? ⟨b, off + k * 2, none⟩ = some v0 ∧ w.cell? ⟨b, off + k * 2 + 1, none⟩ = some v1 := by
  obtain ⟨b, off, ha, hb, hc⟩ := h k x hk
  exact ⟨b, off, ha, hb, by simpa using hc 0 v0 (by rw [he]; rfl), hc 1 v1 (by rw [he]; rfl)⟩
end

/-- A block that is known whole, none of its cells frozen. -/
def Blk (w : World) (g : Nat) (t : TypeId) (cs : Array Value) : Prop := w.heap[g]? = some (.cells cs t (0, 0))

section
variable {w w' : World} {g : Nat} {t : TypeId} {cs : Array Value}
theorem Blk.lt (h : Blk w g t cs) : g < w.heap.size := by
  rcases Nat.lt_or_ge g w.heap.size with hlt | hge
  · exact hlt
  · unfold Blk at h; rw [Array.getElem?_eq_none hge] at h; cases h
theorem Blk.cell (h : Blk w g t cs) (i : Nat) : w.cell? ⟨g, i, none⟩ = cs[i]? := cell_of_row w g i cs t (0, 0) h
theorem Blk.cell_ (h : Blk w g t cs) (i : Nat) {v : Value} (hv : cs[i]? = some v) : w.cell? ⟨g, i, none⟩ = some v := (h.cell i).trans hv
theorem Blk.frozen (h : Blk w g t cs) (i : Nat) : w.frozen? ⟨g, i, none⟩ = false := by
  unfold Blk at h
  simp [World.frozen?, h]
theorem Blk.new (w : World) (t : TypeId) (cs : Array Value) : Blk (w.alloc (.cells cs t)) w.heap.size t cs := heap_alloc_new w _
theorem Blk.drew (h : Blk w g t cs) : Blk w.drew g t cs := h
theorem Blk.alloc (h : Blk w g t cs) (o : Obj) : Blk (w.alloc o) g t cs := (Below.heap_alloc w o g h.lt).trans h
theorem Blk.set_ (h : Blk w g t cs) (i : Nat) (u : Value) : Blk (w.setCell ⟨g, i, none⟩ u) g t (cs.setIfInBounds i u) := by
  unfold Blk at h ⊢
  simp [World.setCell, Array.getElem?_modify, h]
theorem Blk.far (h : Blk w g t cs) {p : Addr} (hp : g ≠ p.block) (u : Value) : Blk (w.setCell p u) g t cs := (Below.heap_setCell w p u g hp).trans h
theorem Blk.below {B : Nat} (h : Blk w g t cs) (hb : Below B w w') (hg : g < B) : Blk w' g t cs := (hb.block g hg).trans h
theorem Blk.grown {row : Option Nat} (h : Blk w g t cs) (hb : w.grownBy w' row) (hg : some g ≠ row) : Blk w' g t cs := (hb.block g h.lt hg).trans h
theorem Blk.ne_ {g' : Nat} {t' : TypeId} {cs' : Array Value} (h : Blk w g t cs) (h' : Blk w g' t' cs') (hne : t ≠ t') : g ≠ g' := by
  rintro rfl
  unfold Blk at h h'
  rw [h] at h'
  injection h' with h'
  injection h' with _ ht
  exact hne ht
end

theorem ret_int {k : IntKind} {a b : Int} (h : a = b) : Ending.returned (.int k a) = .returned (.int k b) := by rw [h]
theorem ret_bool {a b : Bool} (h : a = b) : Ending.returned (.bool a) = .returned (.bool b) := by rw [h]

theorem ret_pair {k k' : IntKind} {a b : Int} {c d : Int} (h : a = b) (h' : c = d) : Ending.returned (.tuple #[.int k a, .int k' c]) = .returned (.tuple #[.int k b, .int k' d]) := by rw [h, h']
theorem ret_ib {k : IntKind} {a b : Int} {c d : Bool} (h : a = b) (h' : c = d) : Ending.returned (.tuple #[.int k a, .bool c]) = .returned (.tuple #[.int k b, .bool d]) := by rw [h, h']

/-- Two ints. -/
structure Pt where
  a : Int
  b : Int
def Pt.enc (p : Pt) : List Value := [.int .i64 p.a, .int .i64 p.b]
theorem pts_at {w : World} {B : Nat} {A : Option Addr} {xs : List Pt} {k : Nat} (h : Slc Pt.enc 2 w B A xs) (hk : k < xs.length) :
    ∃ f t b off, xs[k]? = some ⟨f, t⟩ ∧ A = some ⟨b, off, none⟩ ∧ b < B ∧ w.cell? ⟨b, off + k * 2, none⟩ = some (.int .i64 f) ∧ w.cell? ⟨b, off + k * 2 + 1, none⟩ = some (.int .i64 t) := by
  have hx : xs[k]? = some xs[k] := List.getElem?_eq_getElem hk
  obtain ⟨b, off, ha, hb, h0, h1⟩ := h.at2 hx (v0 := .int .i64 xs[k].a) (v1 := .int .i64 xs[k].b) rfl
  exact ⟨xs[k].a, xs[k].b, b, off, hx, ha, hb, h0, h1⟩
def intEnc (n : Int) : List Value := [.int .i64 n]
theorem ints_at' {w : World} {B : Nat} {A : Option Addr} {xs : List Int} {k : Nat} (h : Slc intEnc 1 w B A xs) (hk : k < xs.length) :
    ∃ n b off, xs[k]? = some n ∧ A = some ⟨b, off, none⟩ ∧ b < B ∧ w.cell? ⟨b, off + k, none⟩ = some (.int .i64 n) := by
  have hx : xs[k]? = some xs[k] := List.getElem?_eq_getElem hk
  obtain ⟨b, off, ha, hb, h0⟩ := h.at1 hx (v := .int .i64 xs[k]) rfl
  exact ⟨xs[k], b, off, hx, ha, hb, h0⟩
end Go.Proofs.Ytcpnfcnobnjhdaa

/- What an argument that can be read as data holds: openers by type. -/
namespace Go.Proofs.Ytcpnfcnobnjhdaa
open Go.RowKit Go.ChangeShapes Go.WideShapes Go.Deep

/-- Whatever reads as a datum of type t takes sz cells, of which R holds. -/
def Opens (P : Program) (t : TypeId) (sz : Nat) (R : World → List Value → Prop) : Prop :=
  P.cellsOf t = sz ∧ ∀ (H : Type) (enc : TypeId × Value → H) (w : World) (base : Nat) (spare : Nat → Bool) (held : Bool) (fuel : Nat) (cs : List Value) (x : DataW H × List MemPlace), DataW.trod enc P w base spare held fuel t cs = some x → cs.length = sz ∧ R w cs

theorem Opens.imp {P : Program} {t : TypeId} {sz : Nat} {R R' : World → List Value → Prop} (h : Opens P t sz R) (hi : ∀ w cs, R w cs → R' w cs) : Opens P t sz R' :=
  ⟨h.1, fun H enc w base spare held fuel cs x ht => ⟨(h.2 H enc w base spare held fuel cs x ht).1, hi _ _ (h.2 H enc w base spare held fuel cs x ht).2⟩⟩
def IsInt (k : IntKind) (_ : World) (cs : List Value) : Prop := ∃ n, cs = [.int k n] ∧ (Lit.int k n).wf = true
def IsBool (_ : World) (cs : List Value) : Prop := ∃ b, cs = [.bool b]
def IsStr (_ : World) (cs : List Value) : Prop := ∃ s : ByteArray, cs = [.string s] ∧ s.size ≤ maxLen
def IsSlice (sz : Nat) (R : World → List Value → Prop) (w : World) (cs : List Value) : Prop :=
  ∃ A len cap, cs = [.slice A len cap] ∧ len ≤ maxLen ∧ ∀ i, i < len → ∃ vs, RowAt w w.heap.size A sz i vs ∧ R w vs

theorem opens_int {P : Program} {t : TypeId} {k : IntKind} (ht : P.underlying t = some (.int k)) (hc : P.cellsOf t = 1) : Opens P t 1 (IsInt k) :=
  ⟨hc, fun H enc w base spare held fuel cs x h => by
    obtain ⟨n, rfl, _, hw⟩ := DataW.trod_int ht h
    exact ⟨rfl, n, rfl, hw⟩⟩
theorem opens_bool {P : Program} {t : TypeId} (ht : P.underlying t = some .bool) (hc : P.cellsOf t = 1) : Opens P t 1 IsBool :=
  ⟨hc, fun H enc w base spare held fuel cs x h => by
    obtain ⟨n, rfl, _⟩ := DataW.trod_bool ht h
    exact ⟨rfl, n, rfl⟩⟩
theorem opens_str {P : Program} {t : TypeId} (ht : P.underlying t = some .string) (hc : P.cellsOf t = 1) : Opens P t 1 IsStr :=
  ⟨hc, fun H enc w base spare held fuel cs x h => by
    obtain ⟨n, rfl, _, hs⟩ := DataW.trod_string ht h
    exact ⟨rfl, n, rfl, hs⟩⟩
theorem block_of_add (a : Addr) (n : Nat) : (a.add n).block = a.block := by unfold Addr.add; split <;> rfl
theorem cell_lt {w : World} {a : Addr} {v : Value} (h : w.cell? a = some v) : a.block < w.heap.size := by
  unfold World.cell? at h
  rcases Nat.lt_or_ge a.block w.heap.size with h1 | h1
  · exact h1
  · rw [Array.getElem?_eq_none h1] at h; cases h
theorem add_add' (a : Addr) (i j : Nat) : (a.add i).add j = a.add (i + j) := by
  unfold Addr.add
  by_cases hi : i = 0 <;> by_cases hj : j = 0 <;> simp [hi, hj, Nat.add_assoc]
theorem opens_slice {P : Program} {t e : TypeId} {sz : Nat} {R : World → List Value → Prop} (ht : P.underlying t = some (.slice e)) (hc : P.cellsOf t = 1) (hs : 0 < sz) (he : Opens P e sz R) : Opens P t 1 (IsSlice sz R) := by
  refine ⟨hc, fun H enc w base spare held fuel cs x h => ?_⟩
  rcases open_slice ht h with ⟨rfl, _⟩ | ⟨a, len, cap, m, n, D, Pl, rfl, hb, hl, hm, hmm, hx, hi⟩
  · exact ⟨rfl, none, 0, 0, rfl, Nat.zero_le _, fun i hi => by omega⟩
  · refine ⟨rfl, some a, len, cap, rfl, Nat.le_trans hl hm, fun i hil => ?_⟩
    have him : i < m := by rw [hmm]; split <;> omega
    obtain ⟨cs', hcs, ht'⟩ := hi i him
    rw [he.1] at hcs
    obtain ⟨hlen, hR⟩ := he.2 H enc w base spare held _ _ _ ht'
    obtain ⟨_, hcl, hat⟩ := World.cells?_some hcs
    have h0 := hat 0 hs
    have h00 : cs'[0]? = some (cs'[0]'(by omega)) := List.getElem?_eq_getElem _
    rw [h00, add_add'] at h0
    have hcell : ∀ j v, cs'[j]? = some v → w.cell? (a.add (i * sz + j)) = some v := fun j v hv => by
      have hj : j < cs'.length := (List.getElem?_eq_some_iff.1 hv).1
      have := hat j (by omega)
      rw [add_add'] at this
      rw [this, hv]
    refine ⟨cs', ?_, hR⟩
    obtain ⟨b, off, spot⟩ := a
    have hsp : spot = none := by
      by_cases hz : i * sz + 0 = 0
      · have := World.cell?_spot h0
        simpa [Addr.add, hz] using this
      · -- the first element's own cell
        have h1 := hi 0 (by omega)
        obtain ⟨cs0, hcs0, ht0⟩ := h1
        rw [he.1] at hcs0
        obtain ⟨_, hcl0, hat0⟩ := World.cells?_some hcs0
        have hz0 := hat0 0 hs
        have h00' : cs0[0]? = some (cs0[0]'(by omega)) := List.getElem?_eq_getElem _
        rw [h00', add_add'] at hz0
        have := World.cell?_spot hz0
        simpa [Addr.add] using this
    subst hsp
    refine ⟨b, off, rfl, ?_, fun j v hv => ?_⟩
    · have := cell_lt h0
      rwa [block_of_add] at this
    · have := hcell j v hv
      unfold Addr.add at this
      split at this
      · rename_i hz
        have e1 : i * sz = 0 := by omega
        have e2 : j = 0 := by omega
        simpa [e1, e2] using this
      · simpa [Nat.add_assoc] using this

/-- a choice for each of the first n numbers, as a list -/
theorem list_of {α : Type} (p : Nat → α → Prop) : ∀ n, (∀ i, i < n → ∃ x, p i x) → ∃ xs : List α, xs.length = n ∧ ∀ (i : Nat) x, xs[i]? = some x → p i x
  | 0, _ => ⟨[], rfl, fun i x h => by simp at h⟩
  | n + 1, h => by
    obtain ⟨xs, hl, hx⟩ := list_of p n fun i hi => h i (by omega)
    obtain ⟨y, hy⟩ := h n (by omega)
    refine ⟨xs ++ [y], by simp [hl], fun i x hi => ?_⟩
    rcases Nat.lt_or_ge i xs.length with h1 | h1
    · rw [List.getElem?_append_left h1] at hi; exact hx i x hi
    · rw [List.getElem?_append_right h1] at hi
      have : i - xs.length = 0 := by
        have := (List.getElem?_eq_some_iff.1 hi).1
        simp at this; omega
      rw [this] at hi
      simp at hi
      subst hi
      have : i = n := by omega
      rw [this]; exact hy
/-- a slice whose elements are told by 'enc', and for each of which Q holds -/
def IsSlc {α : Type} (enc : α → List Value) (sz : Nat) (Q : World → α → Prop) (w : World) (cs : List Value) : Prop :=
  ∃ A cap, ∃ xs : List α, cs = [.slice A xs.length cap] ∧ xs.length ≤ maxLen ∧ Slc enc sz w w.heap.size A xs ∧ ∀ (i : Nat) x, xs[i]? = some x → Q w x
theorem IsSlice.slc {α : Type} {enc : α → List Value} {sz : Nat} {R : World → List Value → Prop} {Q : World → α → Prop} (hR : ∀ w vs, R w vs → ∃ x, vs = enc x ∧ Q w x) {w : World} {cs : List Value} (h : IsSlice sz R w cs) : IsSlc enc sz Q w cs := by
  obtain ⟨A, len, cap, rfl, hl, hi⟩ := h
  obtain ⟨xs, hx, hp⟩ := list_of (fun i x => RowAt w w.heap.size A sz i (enc x) ∧ Q w x) len fun i hil => by
    obtain ⟨vs, hr, hR'⟩ := hi i hil
    obtain ⟨x, rfl, hq⟩ := hR w vs hR'
    exact ⟨x, hr, hq⟩
  subst hx
  exact ⟨A, cap, xs, rfl, hl, fun i x hxi => (hp i x hxi).1, fun i x hxi => (hp i x hxi).2⟩

/-- the j-th field of a struct -/
theorem opens_field {P : Program} {t : TypeId} {fs : Array Field} (ht : P.underlying t = some (.struct fs)) {H : Type} {enc : TypeId × Value → H} {w : World} {base : Nat} {spare : Nat → Bool} {held : Bool} {fuel : Nat} {cs : List Value} {x : DataW H × List MemPlace}
    (h : DataW.trod enc P w base spare held fuel t cs = some x) {j : Nat} {f : Field} (hf : fs[j]? = some f) {sz : Nat} {R : World → List Value → Prop} (ho : Opens P f.type sz R) : ((cs.drop f.offset).take sz).length = sz ∧ R w ((cs.drop f.offset).take sz) := by
  obtain ⟨xs, n, _, _, hlen, hxs, hg⟩ := DataW.trod_struct ht h
  have h1 := hg j f hf
  rw [ho.1] at h1
  have hj : j < xs.length := by rw [hxs]; exact (Array.getElem?_eq_some_iff.1 hf).1
  rw [List.getElem?_eq_getElem hj] at h1
  exact ho.2 H enc w base spare held _ _ _ h1
/-- the j-th element of an array -/
theorem opens_elem {P : Program} {t e : TypeId} {m : Nat} (ht : P.underlying t = some (.array m e)) {H : Type} {enc : TypeId × Value → H} {w : World} {base : Nat} {spare : Nat → Bool} {held : Bool} {fuel : Nat} {cs : List Value} {x : DataW H × List MemPlace}
    (h : DataW.trod enc P w base spare held fuel t cs = some x) {j : Nat} (hj : j < m) {sz : Nat} {R : World → List Value → Prop} (ho : Opens P e sz R) : ((cs.drop (j * sz)).take sz).length = sz ∧ R w ((cs.drop (j * sz)).take sz) := by
  obtain ⟨xs, n, _, _, hlen, hxs, hg⟩ := DataW.trod_array ht h
  have h1 := hg j hj
  rw [ho.1] at h1
  rw [List.getElem?_eq_getElem (by omega)] at h1
  exact ho.2 H enc w base spare held _ _ _ h1
theorem opens_len {P : Program} {t : TypeId} {fs : Array Field} (ht : P.underlying t = some (.struct fs)) {H : Type} {enc : TypeId × Value → H} {w : World} {base : Nat} {spare : Nat → Bool} {held : Bool} {fuel : Nat} {cs : List Value} {x : DataW H × List MemPlace}
    (h : DataW.trod enc P w base spare held fuel t cs = some x) : cs.length = P.cellsOf t := by
  obtain ⟨xs, n, _, _, hlen, _⟩ := DataW.trod_struct ht h
  exact hlen
/-- an argument: its value's cells -/
theorem opens_arg {P : Program} {t : TypeId} {sz : Nat} {R : World → List Value → Prop} (ho : Opens P t sz R) {H : Type} {enc : TypeId × Value → H} {w : World} {base : Nat} {spare : Nat → Bool} {held : Bool} {v : Value} {d : DataW H} {p : List MemPlace}
    (h : DataW.Trod enc P w base spare held t v d p) : v.cells.toList.length = sz ∧ R w v.cells.toList := by
  obtain ⟨fuel, hf⟩ := h
  exact ho.2 H enc w base spare held fuel _ _ hf
section
variable {P : Program} {r : Reach} {b0 : Nat} {t : TypeId} {sz : Nat} {R : World → List Value → Prop} {H : Type} {enc : TypeId × Value → H} {w : World} {base : Nat} {spare : Nat → Bool} {held : Bool} {v : Value} {d : DataW H} {p : List MemPlace}
theorem arg_struct {fs : Array Field} (ht : P.underlying t = some (.struct fs)) (ho : Opens P t sz R) (hv : Value.okWide P w r b0 t v) (h : DataW.Trod enc P w base spare held t v d p) : ∃ l, v = .agg l.toArray ∧ R w l := by
  obtain ⟨cs, rfl, _⟩ := okWide_struct ht hv
  exact ⟨cs.toList, by simp, (opens_arg ho h).2⟩
theorem arg_array {m e : Nat} (ht : P.underlying t = some (.array m e)) (ho : Opens P t sz R) (hv : Value.okWide P w r b0 t v) (h : DataW.Trod enc P w base spare held t v d p) : ∃ l, v = .agg l.toArray ∧ R w l := by
  have hv' : ∃ cs, v = .agg cs := by
    simp only [Value.okWide, ht] at hv
    obtain ⟨cs, h1, _⟩ := hv
    exact ⟨cs, h1⟩
  obtain ⟨cs, rfl⟩ := hv'
  exact ⟨cs.toList, by simp, (opens_arg ho h).2⟩
theorem arg_slc {α : Type} {enc' : α → List Value} {Q : World → α → Prop} {e : TypeId} (ht : P.underlying t = some (.slice e)) (ho : Opens P t 1 (IsSlc enc' sz Q)) (hv : Value.okWide P w r b0 t v) (h : DataW.Trod enc P w base spare held t v d p) :
    ∃ A cap, ∃ xs : List α, v = .slice A xs.length cap ∧ xs.length ≤ maxLen ∧ Slc enc' sz w w.heap.size A xs ∧ ∀ (i : Nat) x, xs[i]? = some x → Q w x := by
  obtain ⟨a, len, cap, rfl⟩ := okWide_slice ht hv
  obtain ⟨A, c, xs, h1, h2⟩ := (opens_arg ho h).2
  refine ⟨A, c, xs, ?_, h2⟩
  simpa [Value.cells] using h1
end
theorem take1_at {cs : List Value} {j : Nat} {v : Value} (h : (cs.drop j).take 1 = [v]) : cs[j]? = some v := by
  have := congrArg (·[0]?) h
  simpa using this
theorem own_ : ownKnob Try.prog.godebug = none := by kernel_rfl
theorem laidOut_ : laidOutB Try.prog = true := by kernel_rfl
end Go.Proofs.Ytcpnfcnobnjhdaa

/- The shop: plain definitions, and what a shop in memory is. -/
namespace Go.Proofs.Ytcpnfcnobnjhdaa
structure Step where
  m : Int
  mi : Int
  c : Int
  d : Int
structure Shop where
  op : Int
  cl : Int
  mach : Int
  hol : List Int
  setup : List Int
  jobs : List (List Step)
/-- a shop with where its lists lie -/
structure Sh where
  p : Shop
  aH : Option Addr
  cH : Nat
  aS : Option Addr
  cS : Nat
  aJ : Option Addr
  cJ : Nat
def Step.enc (x : Step) : List Value := [.int .i64 x.m, .int .i64 x.mi, .int .i64 x.c, .int .i64 x.d]
def Jobs (w : World) (B : Nat) (A : Option Addr) (js : List (List Step)) : Prop :=
  ∀ (i : Nat) l, js[i]? = some l → ∃ b off A' c', A = some ⟨b, off, none⟩ ∧ b < B ∧ w.cell? ⟨b, off + i, none⟩ = some (.slice A' l.length c') ∧ Slc Step.enc 4 w B A' l
theorem Jobs.keep {w w' : World} {B : Nat} {A : Option Addr} {js : List (List Step)} (h : Jobs w B A js) (hk : ∀ p : Addr, p.block < B → w'.cell? p = w.cell? p) : Jobs w' B A js := fun i l hl => by
  obtain ⟨b, off, A', c', hA, hb, hc, hS⟩ := h i l hl
  exact ⟨b, off, A', c', hA, hb, (hk _ hb).trans hc, hS.keep hk⟩
theorem Jobs.more {w : World} {B B' : Nat} {A : Option Addr} {js : List (List Step)} (h : Jobs w B A js) (hB : B ≤ B') : Jobs w B' A js := fun i l hl => by
  obtain ⟨b, off, A', c', hA, hb, hc, hS⟩ := h i l hl
  exact ⟨b, off, A', c', hA, by omega, hc, hS.more hB⟩
structure ShAt (w : World) (B : Nat) (s : Sh) : Prop where
  hol : Slc intEnc 1 w B s.aH s.p.hol
  setup : Slc intEnc 1 w B s.aS s.p.setup
  jobs : Jobs w B s.aJ s.p.jobs
theorem ShAt.below {w w' : World} {B : Nat} {s : Sh} (h : ShAt w B s) (hb : Go.RowKit.Below B w w') : ShAt w' B s :=
  ⟨h.hol.below hb, h.setup.below hb, h.jobs.keep fun _ hp => hb.cell hp⟩
theorem ShAt.more {w : World} {B B' : Nat} {s : Sh} (h : ShAt w B s) (hB : B ≤ B') : ShAt w B' s := ⟨h.hol.more hB, h.setup.more hB, h.jobs.more hB⟩
/-- .. in a later world, with all of its blocks -/
theorem ShAt.on {w w' : World} {s : Sh} (h : ShAt w w.heap.size s) (hb : Go.RowKit.Below w.heap.size w w') : ShAt w' w'.heap.size s := (h.below hb).more hb.size
theorem steps_at {w : World} {B : Nat} {A : Option Addr} {xs : List Step} {k : Nat} (h : Slc Step.enc 4 w B A xs) (hk : k < xs.length) :
    ∃ x b off, xs[k]? = some x ∧ A = some ⟨b, off, none⟩ ∧ b < B ∧ w.cell? ⟨b, off + k * 4, none⟩ = some (.int .i64 x.m) ∧ w.cell? ⟨b, off + k * 4 + 1, none⟩ = some (.int .i64 x.mi) ∧ w.cell? ⟨b, off + k * 4 + 2, none⟩ = some (.int .i64 x.c) ∧ w.cell? ⟨b, off + k * 4 + 3, none⟩ = some (.int .i64 x.d) := by
  have hx : xs[k]? = some xs[k] := List.getElem?_eq_getElem hk
  obtain ⟨b, off, ha, hb, hc⟩ := h k _ hx
  exact ⟨xs[k], b, off, hx, ha, hb, by simpa using hc 0 _ rfl, hc 1 _ rfl, hc 2 _ rfl, hc 3 _ rfl⟩
theorem jobs_at {w : World} {B : Nat} {A : Option Addr} {js : List (List Step)} {k : Nat} (h : Jobs w B A js) (hk : k < js.length) :
    ∃ l b off A' c', js[k]? = some l ∧ A = some ⟨b, off, none⟩ ∧ b < B ∧ w.cell? ⟨b, off + k, none⟩ = some (.slice A' l.length c') ∧ Slc Step.enc 4 w B A' l := by
  have hx : js[k]? = some js[k] := List.getElem?_eq_getElem hk
  obtain ⟨b, off, A', c', h1⟩ := h k _ hx
  exact ⟨js[k], b, off, A', c', hx, h1⟩

def inB (a n b : Int) : Bool := decide (a ≤ n) && decide (n ≤ b)
theorem inB_iff {a n b : Int} : inB a n b = true ↔ a ≤ n ∧ n ≤ b := by simp [inB]
theorem inB_false {a n b : Int} : inB a n b = false ↔ n < a ∨ b < n := by simp [inB]; omega
def holsOk : Int → List Int → Bool
  | _, [] => true
  | prev, d :: r => inB 0 d 10000 && decide (prev < d) && holsOk d r
def stepOk (p : Shop) (x : Step) : Bool := inB 0 x.m (p.mach - 1) && inB 1 x.mi (p.cl - p.op) && inB 0 x.c 9 && inB 0 x.d 10000
def jobOk (p : Shop) (l : List Step) : Bool := decide (l.length ≤ 8) && l.all (stepOk p)
def headOk (p : Shop) : Bool := decide (0 ≤ p.op) && decide (p.op < p.cl) && decide (p.cl ≤ 1440) && decide (p.hol.length ≤ 400) && inB 1 p.mach 6 && decide ((p.setup.length : Int) = p.mach) && decide (p.jobs.length ≤ 12)
def validShop (p : Shop) : Bool := headOk p && holsOk (-1) p.hol && p.setup.all (fun n => inB 0 n 1000) && p.jobs.all (jobOk p)
def longB (p : Shop) : Bool := decide (500 < p.hol.length) || decide (20 < p.setup.length) || decide (30 < p.jobs.length) || p.jobs.any fun l => decide (20 < l.length)
theorem holsOk_step {prev d : Int} {l : List Int} {k : Nat} (hk : l[k]? = some d) : holsOk prev (l.drop k) = (inB 0 d 10000 && decide (prev < d) && holsOk d (l.drop (k + 1))) := by
  obtain ⟨hl, hf⟩ := List.getElem?_eq_some_iff.1 hk
  rw [List.drop_eq_getElem_cons hl, hf]; rfl
theorem all_drop {α : Type} {f : α → Bool} {l : List α} {k : Nat} {x : α} (hk : l[k]? = some x) : (l.drop k).all f = (f x && (l.drop (k + 1)).all f) := by
  obtain ⟨hl, hf⟩ := List.getElem?_eq_some_iff.1 hk
  rw [List.drop_eq_getElem_cons hl, hf]; rfl
theorem any_drop {α : Type} {f : α → Bool} {l : List α} {k : Nat} {x : α} (hk : l[k]? = some x) : (l.drop k).any f = (f x || (l.drop (k + 1)).any f) := by
  obtain ⟨hl, hf⟩ := List.getElem?_eq_some_iff.1 hk
  rw [List.drop_eq_getElem_cons hl, hf]; rfl
theorem nomore {α : Type} (l : List α) : l.drop l.length = [] := by simp
end Go.Proofs.Ytcpnfcnobnjhdaa

/- 'long' of the shop's statements: the walk. -/
namespace Go.Proofs.Ytcpnfcnobnjhdaa
open Go.RowKit
set_option maxHeartbeats 1000000 in
theorem long_any (s : Sh) (w : World) (hS : ShAt w w.heap.size s) (h1 : s.p.hol.length ≤ 9223372036854775807) (h2 : s.p.setup.length ≤ 9223372036854775807) (h3 : s.p.jobs.length ≤ 9223372036854775807) (h4 : ∀ l ∈ s.p.jobs, l.length ≤ 9223372036854775807) :
    Calls Try.prog 18 #[.agg #[.int .i64 s.p.op, .int .i64 s.p.cl, .slice s.aH s.p.hol.length s.cH, .int .i64 s.p.mach, .slice s.aS s.p.setup.length s.cS, .slice s.aJ s.p.jobs.length s.cJ]] w fun e w' => e = .returned (.bool (longB s.p)) ∧ Below w.heap.size w w' := by
  have HV : Hid (longB s.p = (decide (500 < s.p.hol.length) || decide (20 < s.p.setup.length) || decide (30 < s.p.jobs.length) || s.p.jobs.any fun l => decide (20 < l.length))) := rfl
  have H4 := hide h4
  clear h4
  by_cases g1 : 500 < s.p.hol.length
  · go_enter Try.func18, Try.ntmps18
    go_wp2
    go_ret
    exact ⟨ret_bool (by rw [HV.out]; simp [g1]), (Below.refl _ _).alloc (Nat.le_refl _) _⟩
  by_cases g2 : 20 < s.p.setup.length
  · go_enter Try.func18, Try.ntmps18
    go_wp2
    go_ret
    exact ⟨ret_bool (by rw [HV.out]; simp [g2]), (Below.refl _ _).alloc (Nat.le_refl _) _⟩
  by_cases g3 : 30 < s.p.jobs.length
  · go_enter Try.func18, Try.ntmps18
    go_wp2
    go_ret
    exact ⟨ret_bool (by rw [HV.out]; simp [g3]), (Below.refl _ _).alloc (Nat.le_refl _) _⟩
  have hv : longB s.p = s.p.jobs.any fun l => decide (20 < l.length) := by rw [HV.out]; simp [g1, g2, g3]
  have HV2 := hide hv
  clear hv
  go_enter Try.func18, Try.ntmps18
  go_wp2
  go_loopw [3] (fun i wr => ∃ k : Nat, k ≤ s.p.jobs.length ∧ i = .int .i64 k ∧ longB s.p = (s.p.jobs.drop k).any (fun l => decide (20 < l.length)) ∧ Blk wr w.heap.size 25 #[.int .i64 s.p.op, .int .i64 s.p.cl, .slice s.aH s.p.hol.length s.cH, .int .i64 s.p.mach, .slice s.aS s.p.setup.length s.cS, .slice s.aJ s.p.jobs.length s.cJ] ∧ Below w.heap.size w wr) (fun i _ => s.p.jobs.length - (intOf i).toNat)
  case atStart => exact ⟨0, Nat.zero_le _, rfl, HV2.out, Blk.new _ _ _, (Below.refl _ _).alloc (Nat.le_refl _) _⟩
  case round =>
    obtain ⟨k, hk, rfl, hs, hblk, hbel⟩ := hrel
    have HS := hide hs
    clear hs
    have c5 := hblk.cell_ 5 rfl
    by_cases hlt : k < s.p.jobs.length
    · obtain ⟨l, b, off, A', c', hx, hA, hb, hc, _⟩ := jobs_at (hS.jobs.keep fun _ hp => hbel.cell hp) hlt
      have hl := H4.out l (List.mem_of_getElem? hx)
      rw [hA] at c5
      have HX := hide hx
      have HA := hide hA
      clear hx hA
      go_wp2
      · go_ret
        exact ⟨ret_bool (by rw [HS.out, any_drop HX.out]; simp; omega), hbel⟩
      · go_roundw
        case rel => exact ⟨k + 1, by omega, by go_num, by rw [HS.out, any_drop HX.out]; simp; omega, hblk, hbel⟩
        case measure => simp [intOf]; omega
    · obtain rfl : k = s.p.jobs.length := by omega
      go_wp2
      go_ret
      exact ⟨ret_bool (by rw [HS.out, nomore]; rfl), hbel⟩
end Go.Proofs.Ytcpnfcnobnjhdaa

/- Regions that draw their order: all operations but the last ones only read, or call what makes memory but turns nothing that was there; the last ones stand in one forced order. -/
namespace Go.Proofs.Ytcpnfcnobnjhdaa
open Go Go.RowKit

section
variable {P : Program} {ops : Array Oper} {md : Region.Mode} {C : World → Prop}
def wpAnyLQ (P : Program) (md : Region.Mode) (ops : Array Oper) (C : World → Prop) (n : Nat) (L : Array Bool → Act → Prop) : Nat → Array Bool → Act → Prop
  | 0, listed, a => L listed a
  | f + 1, listed, a =>
    Region.ready md ops listed ≠ [] ∧ ∀ i ∈ Region.ready md ops listed, i < n ∧ qOp P ops C i (wpAnyLQ P md ops C n L f (listed.setIfInBounds i true)) a
theorem wpAny_of_headQ {n g : Nat} {L : Array Bool → Act → Prop} {Q' : Exit → Act → World → Prop} (hL : ∀ listed a w, C w → L listed a → wpAny P md ops Q' g listed a w) :
    ∀ (f : Nat) (listed : Array Bool) (a : Act) (w : World), C w → wpAnyLQ P md ops C n L f listed a → wpAny P md ops Q' (f + g) listed a w
  | 0, listed, a, w, hw, h => by rw [Nat.zero_add]; exact hL _ _ _ hw h
  | f + 1, listed, a, w, hw, h => by
    rw [show f + 1 + g = (f + g) + 1 by omega]
    exact ⟨fun h0 => absurd h0 h.1, fun i hi => wpOp_of_qOp hw (fun a' w' hw' h' => wpAny_of_headQ hL f _ a' w' hw' h') (h.2 i hi).2⟩
theorem wpAnyLQ_first {n i : Nat} {oi : Oper} {v : Value} {L : Array Bool → Act → Prop} (hi : ops[i]? = some oi) (hsel : ∀ (j : Nat) (o : Oper) cs b, ops[j]? = some o → o.op ≠ .select cs b)
    (hs : Region.sinkB md ops n = true) (hc : Region.chainB md ops n = true) (hn : n < ops.size) (hin : i < n)
    (hdone : ∀ listed a, L listed a → ∀ j ∈ Region.ready md ops listed, n ≤ j) :
    ∀ (f : Nat) (listed : Array Bool) (a : Act), HeadInv md ops n listed →
      (∀ j oj, ops[j]? = some oj → j ≠ i → listed.getD j true = false → (∀ e ∈ oj.after, Region.binds md e = true → e.on ≠ i) → oi.apart ops oj = true) →
      i ∈ Region.ready md ops listed → YieldsIn P ops C oi v a →
      wpAnyLQ P md ops C n L f (listed.setIfInBounds i true) (a.put oi.dst v) → wpAnyLQ P md ops C n L (f + 1) listed a := by
  intro f
  induction f with
  | zero =>
    intro listed a inv _ hr hy H
    have hun := (mem_ready.1 hr).1
    refine ⟨fun h => (by rw [h] at hr; cases hr), fun j hj => ?_⟩
    have hjn : j < n := by
      rcases Nat.lt_or_ge j n with h | h
      · exact h
      · exact absurd hj (tail_waits hs hc hn inv _ i rfl hin hun j h)
    refine ⟨hjn, ?_⟩
    by_cases hji : j = i
    · subst hji; exact hy.qOp hi H
    · have := hdone _ _ H j (ready_mono hj hji)
      omega
  | succ f ih =>
    intro listed a inv hfree hr hy H
    have hun := (mem_ready.1 hr).1
    refine ⟨fun h => (by rw [h] at hr; cases hr), fun j hj => ?_⟩
    have hjn : j < n := by
      rcases Nat.lt_or_ge j n with h | h
      · exact h
      · exact absurd hj (tail_waits hs hc hn inv _ i rfl hin hun j h)
    refine ⟨hjn, ?_⟩
    by_cases hji : j = i
    · subst hji; exact hy.qOp hi H
    · have h1 := (H.2 j (ready_mono hj hji)).2
      obtain ⟨hjun, oj, hoj, hall⟩ := mem_ready.1 hj
      have hnot : ∀ e ∈ oj.after, Region.binds md e = true → e.on ≠ i := fun e he hb heq => by
        have h1 := hall e he hb
        rw [heq, getD_both hun] at h1
        cases h1
      have h2 := qOp_put hoj (hfree j oj hoj hji hjun hnot) (fun cs b => hsel i oi cs b hi) (fun cs b => hsel j oj cs b hoj) hy h1
      have hfree' : ∀ k ok, ops[k]? = some ok → k ≠ i → (listed.setIfInBounds j true).getD k true = false →
          (∀ e ∈ ok.after, Region.binds md e = true → e.on ≠ i) → oi.apart ops ok = true := fun k ok hk hki hun hno => by
        refine hfree k ok hk hki ?_ hno
        by_cases hjk : j = k
        · subst hjk; exact hjun
        · rw [getD_set_ne true hjk] at hun; exact hun
      refine qOp_mono (fun a' h3 => ih (listed.setIfInBounds j true) a' (inv.set hj hjn) hfree' (ready_mono hr (Ne.symm hji)) h3.1 ?_) h2
      rw [Array.setIfInBounds_comm _ _ hji]
      exact h3.2
theorem wpAnyLQ_lex {n g : Nat} {Lq : Act → Prop} (hsel : Region.noSelect ops = true) (hs : Region.sinkB md ops n = true) (hc : Region.chainB md ops n = true) (hn : n < ops.size) :
    ∀ (l : List Oper) (k : Nat) (listed : Array Bool) (a : Act), (∀ j, j < l.length → l[j]? = ops[k + j]?) → k + l.length = n → HeadInv md ops n listed →
    Region.lexHead md ops g l.length k listed = true → wpQuiet P ops C Lq l a →
    wpAnyLQ P md ops C n (fun listed' a' => Region.seqB md ops g n listed' = true ∧ Lq a') l.length listed a
  | [], k, listed, a, _, hk, _, hB, h => by
    have : k = n := by simpa using hk
    subst this
    exact ⟨by simpa [Region.lexHead] using hB, h⟩
  | o :: l, k, listed, a, hl, hk, inv, hB, h => by
    have h0 : ops[k]? = some o := by simpa using (hl 0 (by simp)).symm
    simp only [List.length_cons, Region.lexHead, Bool.and_eq_true] at hB
    obtain ⟨⟨hr, hf⟩, hB'⟩ := hB
    have hkn : k < n := by simp only [List.length_cons] at hk; omega
    have hr' : k ∈ Region.ready md ops listed := by simpa using hr
    have hst : qOp P ops C k (wpQuiet P ops C Lq l) a := by unfold qOp; simp only [h0]; exact h
    obtain ⟨v, hy, hK⟩ := yieldsIn_of_qOp h0 hst
    exact wpAnyLQ_first h0 (Region.noSelect_spec hsel) hs hc hn hkn (fun listed' a' hL => seqB_ready hL.1) l.length listed a inv (Region.free_spec h0 hf) hr' hy
      (wpAnyLQ_lex hsel hs hc hn l (k + 1) _ _ (fun j hj => by have := hl (j + 1) (by simp; omega); simpa [Nat.add_assoc, Nat.add_comm 1 j] using this) (by simp only [List.length_cons] at hk; omega) (inv.set hr' hkn) hB' hK)
theorem wp_region_quiet_tail {id : Nat} {Q : Exit → Act → World → Prop} {a : Act} {w : World} {l : List Oper} (n : Nat) (hm : P.follows .mixedOrders = true) (hB : Region.lexTailB .any l.toArray n = true) (hC : C w.drew)
    (h : wpQuiet P l.toArray C (fun a' => ∀ w', C w' → wpList P l.toArray Q (l.drop n) a' w') (l.take n) a) : (Code.region id l.toArray true).wp P Q a w := by
  simp only [Region.lexTailB, Bool.and_eq_true, decide_eq_true_eq] at hB
  obtain ⟨⟨⟨⟨hsel, hn⟩, hs⟩, hc⟩, hlex⟩ := hB
  have hn' : n < l.length := by simpa using hn
  have htl : (l.take n).length = n := by simp; omega
  have hdl : (l.drop n).length = l.toArray.size - n := by simp
  have inv0 : HeadInv .any l.toArray n (Array.replicate l.toArray.size false) :=
    ⟨by simp, fun j oj _ hl => (by rw [getD_replicate_false] at hl; cases hl), fun t _ ht => getD_in (by simpa using ht) (getD_replicate_false _ _)⟩
  have H := wpAnyLQ_lex (md := .any) (g := l.toArray.size - n) hsel hs hc hn (l.take n) 0 _ a (fun j hj => by
    have hj' : j < n := by rw [htl] at hj; exact hj
    simp [hj']) (by simpa using htl) inv0 (by rw [htl]; exact hlex) h
  refine wp_region_any hm ?_
  have := wpAny_of_headQ (Q' := Q) (g := l.toArray.size - n) (fun listed a' w' hw' hL => by
    have := wpAny_of_seq (md := .any) (Q' := Q) (l.drop n) n listed a' w' (fun j => by simp [List.getElem?_drop]) (by rw [hdl]; exact hL.1) (hL.2 w' hw')
    rwa [hdl] at this) _ _ _ _ hC H
  rw [htl, show n + (l.toArray.size - n) = l.toArray.size by omega] at this
  exact this
end

/-- The worlds that have come of W by new blocks and draws alone. -/
structure Since (W : World) where
  w : World
  h : Below W.heap.size W w
instance (W : World) : Nonempty (Since W) := ⟨⟨W, Below.refl _ _⟩⟩
theorem Since.cell {W : World} {p : Addr} {v : Value} (h : W.cell? p = some v) : ∀ u : Since W, u.w.cell? p = some v := fun u => by
  refine (u.h.cell ?_).trans h
  unfold World.cell? at h
  rcases Nat.lt_or_ge p.block W.heap.size with h1 | h1
  · exact h1
  · rw [Array.getElem?_eq_none h1] at h; cases h
theorem Since.start (W : World) : ∃ u : Since W, W.drew = u.w := ⟨⟨W.drew, (Below.refl _ _).drew⟩, rfl⟩
/-- a callee's contract, met in such a world -/
theorem Since.calls {P : Program} {f : FuncId} {args : Array Value} {W : World} {u : Since W} {v : Value}
    (h : Calls P f args u.w fun e w' => e = .returned v ∧ Below u.w.heap.size u.w w') : Calls P f args u.w fun e w'' => e = .returned v ∧ ∃ u' : Since W, w'' = u'.w :=
  h.mono fun _ w' ⟨he, hb⟩ => ⟨he, ⟨w', u.h.trans (hb.mono u.h.size)⟩, rfl⟩
theorem Since.calls_same {P : Program} {f : FuncId} {args : Array Value} {W : World} {u : Since W} {v : Value}
    (h : Calls P f args u.w fun e w' => e = .returned v ∧ u.w = w') : Calls P f args u.w fun e w'' => e = .returned v ∧ ∃ u' : Since W, w'' = u'.w :=
  h.mono fun _ w' ⟨he, hb⟩ => ⟨he, u, hb.symm⟩
end Go.Proofs.Ytcpnfcnobnjhdaa

/- Which shops are valid: the walks of both texts. -/
namespace Go.Proofs.Ytcpnfcnobnjhdaa
open Go.RowKit
theorem within_any (a n b : Int) (w : World) : Calls Try.prog 50 #[.int .i64 a, .int .i64 n, .int .i64 b] w fun e w' => e = .returned (.bool (inB a n b)) ∧ w = w' := by
  have H : Hid (inB a n b = (decide (a ≤ n) && decide (n ≤ b))) := rfl
  by_cases h1 : a ≤ n
  · go_enter Try.func50, Try.ntmps50
    go_wp2
    all_goals go_ret; rw [H.out]; simp [*]; try omega
  · go_enter Try.func50, Try.ntmps50
    go_wp2
    go_ret; rw [H.out]; simp; omega
theorem refWithin_any (a n b : Int) (w : World) : Calls Try.prog 48 #[.int .i64 n, .int .i64 a, .int .i64 b] w fun e w' => e = .returned (.bool (inB a n b)) ∧ w = w' := by
  have H : Hid (inB a n b = (decide (a ≤ n) && decide (n ≤ b))) := rfl
  by_cases h1 : a ≤ n
  · go_enter Try.func48, Try.ntmps48
    go_wp2
    all_goals go_ret; rw [H.out]; simp [*]; try omega
  · go_enter Try.func48, Try.ntmps48
    go_wp2
    go_ret; rw [H.out]; simp; omega

set_option maxHeartbeats 1000000 in
theorem valid1_any (s : Sh) (x : Step) (g : Nat) (w : World) (hB : Blk w g 25 #[.int .i64 s.p.op, .int .i64 s.p.cl, .slice s.aH s.p.hol.length s.cH, .int .i64 s.p.mach, .slice s.aS s.p.setup.length s.cS, .slice s.aJ s.p.jobs.length s.cJ]) (h0 : 0 ≤ s.p.op) (h1 : s.p.op < s.p.cl) (h2 : s.p.cl ≤ 1440) (h3 : 1 ≤ s.p.mach) (h4 : s.p.mach ≤ 6) :
    Calls Try.prog 73 #[.agg #[.int .i64 x.m, .int .i64 x.mi, .int .i64 x.c, .int .i64 x.d], .pointer (some ⟨g, 0, none⟩)] w fun e w' => e = .returned (.bool (!stepOk s.p x)) ∧ Below w.heap.size w w' := by
  have HV : Hid (stepOk s.p x = (inB 0 x.m (s.p.mach - 1) && inB 1 x.mi (s.p.cl - s.p.op) && inB 0 x.c 9 && inB 0 x.d 10000)) := rfl
  have c0 := hB.cell_ 0 rfl
  have c1 := hB.cell_ 1 rfl
  have c3 := hB.cell_ 3 rfl
  have hg := hB.lt
  cases q0 : inB 0 x.m (s.p.mach - 1)
  · go_enter Try.func73, Try.ntmps73
    go_wp2_with (go_at_call 50; refine (within_any _ _ _ _).mono ?_; rintro e w' ⟨rfl, rfl⟩)
    go_ret
    exact ⟨ret_bool (by rw [HV.out]; simp [q0]), (Below.refl _ _).alloc (Nat.le_refl _) _⟩
  cases q1 : inB 1 x.mi (s.p.cl - s.p.op)
  · go_enter Try.func73, Try.ntmps73
    go_wp2_with (go_at_call 50; refine (within_any _ _ _ _).mono ?_; rintro e w' ⟨rfl, rfl⟩)
    go_ret
    exact ⟨ret_bool (by rw [HV.out]; simp [q0, q1]), (Below.refl _ _).alloc (Nat.le_refl _) _⟩
  cases q2 : inB 0 x.c 9
  · go_enter Try.func73, Try.ntmps73
    go_wp2_with (go_at_call 50; refine (within_any _ _ _ _).mono ?_; rintro e w' ⟨rfl, rfl⟩)
    go_ret
    exact ⟨ret_bool (by rw [HV.out]; simp [q0, q1, q2]), (Below.refl _ _).alloc (Nat.le_refl _) _⟩
  cases q3 : inB 0 x.d 10000
  · go_enter Try.func73, Try.ntmps73
    go_wp2_with (go_at_call 50; refine (within_any _ _ _ _).mono ?_; rintro e w' ⟨rfl, rfl⟩)
    go_ret
    exact ⟨ret_bool (by rw [HV.out]; simp [q0, q1, q2, q3]), (Below.refl _ _).alloc (Nat.le_refl _) _⟩
  go_enter Try.func73, Try.ntmps73
  go_wp2_with (go_at_call 50; refine (within_any _ _ _ _).mono ?_; rintro e w' ⟨rfl, rfl⟩)
  go_ret
  exact ⟨ret_bool (by rw [HV.out]; simp [q0, q1, q2, q3]), (Below.refl _ _).alloc (Nat.le_refl _) _⟩

set_option maxHeartbeats 1000000 in
theorem refStep_any (s : Sh) (x : Step) (w : World) (h0 : 0 ≤ s.p.op) (h1 : s.p.op < s.p.cl) (h2 : s.p.cl ≤ 1440) (h3 : 1 ≤ s.p.mach) (h4 : s.p.mach ≤ 6) :
    Calls Try.prog 49 #[.agg #[.int .i64 s.p.op, .int .i64 s.p.cl, .slice s.aH s.p.hol.length s.cH, .int .i64 s.p.mach, .slice s.aS s.p.setup.length s.cS, .slice s.aJ s.p.jobs.length s.cJ], .agg #[.int .i64 x.m, .int .i64 x.mi, .int .i64 x.c, .int .i64 x.d]] w fun e w' => e = .returned (.bool (stepOk s.p x)) ∧ Below w.heap.size w w' := by
  have HV : Hid (stepOk s.p x = (inB 0 x.m (s.p.mach - 1) && inB 1 x.mi (s.p.cl - s.p.op) && inB 0 x.c 9 && inB 0 x.d 10000)) := rfl
  have hbw := (((Below.refl w.heap.size w).alloc (Nat.le_refl _) (.cells #[.int .i64 s.p.op, .int .i64 s.p.cl, .slice s.aH s.p.hol.length s.cH, .int .i64 s.p.mach, .slice s.aS s.p.setup.length s.cS, .slice s.aJ s.p.jobs.length s.cJ] 25)).alloc (by simp) (.cells #[.int .i64 x.m, .int .i64 x.mi, .int .i64 x.c, .int .i64 x.d] 69))
  cases q0 : inB 0 x.m (s.p.mach - 1)
  · go_enter Try.func49, Try.ntmps49
    go_wp2_with (go_at_call 48; refine (refWithin_any _ _ _ _).mono ?_; rintro e w' ⟨rfl, rfl⟩)
    go_ret
    exact ⟨ret_bool (by rw [HV.out]; simp [q0]), hbw⟩
  cases q1 : inB 1 x.mi (s.p.cl - s.p.op)
  · go_enter Try.func49, Try.ntmps49
    go_wp2_with (go_at_call 48; refine (refWithin_any _ _ _ _).mono ?_; rintro e w' ⟨rfl, rfl⟩)
    go_ret
    exact ⟨ret_bool (by rw [HV.out]; simp [q0, q1]), hbw⟩
  cases q2 : inB 0 x.c 9
  · go_enter Try.func49, Try.ntmps49
    go_wp2_with (go_at_call 48; refine (refWithin_any _ _ _ _).mono ?_; rintro e w' ⟨rfl, rfl⟩)
    go_ret
    exact ⟨ret_bool (by rw [HV.out]; simp [q0, q1, q2]), hbw⟩
  cases q3 : inB 0 x.d 10000
  · go_enter Try.func49, Try.ntmps49
    go_wp2_with (go_at_call 48; refine (refWithin_any _ _ _ _).mono ?_; rintro e w' ⟨rfl, rfl⟩)
    go_ret
    exact ⟨ret_bool (by rw [HV.out]; simp [q0, q1, q2, q3]), hbw⟩
  go_enter Try.func49, Try.ntmps49
  go_wp2_with (go_at_call 48; refine (refWithin_any _ _ _ _).mono ?_; rintro e w' ⟨rfl, rfl⟩)
  go_ret
  exact ⟨ret_bool (by rw [HV.out]; simp [q0, q1, q2, q3]), hbw⟩

/-- what IndexFunc returns: not below 0 just if one of the elements is wrong -/
def IxPost (bad : Bool) (w : World) (e : Ending) (w' : World) : Prop := ∃ r : Int, e = .returned (.int .i64 r) ∧ decide (0 ≤ r) = bad ∧ Below w.heap.size w w'
set_option maxHeartbeats 1000000 in
theorem indexStep_any (s : Sh) (A : Option Addr) (c : Nat) (l : List Step) (g : Nat) (w : World) (hB : Blk w g 25 #[.int .i64 s.p.op, .int .i64 s.p.cl, .slice s.aH s.p.hol.length s.cH, .int .i64 s.p.mach, .slice s.aS s.p.setup.length s.cS, .slice s.aJ s.p.jobs.length s.cJ]) (h0 : 0 ≤ s.p.op) (h1 : s.p.op < s.p.cl) (h2 : s.p.cl ≤ 1440) (h3 : 1 ≤ s.p.mach) (h4 : s.p.mach ≤ 6) (hlen : l.length ≤ 1000) (hS : Slc Step.enc 4 w w.heap.size A l) :
    Calls Try.prog 86 #[.slice A l.length c, .func (.func 73) #[] #[.pointer (some ⟨g, 0, none⟩)]] w (IxPost (l.any fun x => !stepOk s.p x) w) := by
  go_enter Try.func86, Try.ntmps86
  go_wp2
  go_loopw [8] (fun i wr => ∃ k : Nat, k ≤ l.length ∧ i = .int .i64 k ∧ (l.any fun x => !stepOk s.p x) = (l.drop k).any (fun x => !stepOk s.p x) ∧ Below w.heap.size w wr) (fun i _ => l.length - (intOf i).toNat)
  case atStart => exact ⟨0, Nat.zero_le _, rfl, rfl, Below.refl _ _⟩
  case round =>
    obtain ⟨k, hk, rfl, hs, hbel⟩ := hrel
    have HS := hide hs
    clear hs
    by_cases hlt : k < l.length
    · obtain ⟨x, b, off, hx, hA, hb, e0, e1, e2, e3⟩ := steps_at (hS.below hbel) hlt
      subst hA
      have HX := hide hx
      clear hx
      have HB := hide (hB.below hbel hB.lt)
      cases hok : stepOk s.p x
      all_goals
        go_wp2_with fail
        refine (valid1_any s x g _ HB.out h0 h1 h2 h3 h4).mono ?_
        rintro e w2 ⟨rfl, hb2⟩
        rw [hok]
        go_wp2
      · go_ret
        exact ⟨k, rfl, by rw [HS.out, any_drop HX.out, hok]; simp, hbel.trans (hb2.mono hbel.size)⟩
      · go_roundw
        case rel => exact ⟨k + 1, by omega, by go_num, by rw [HS.out, any_drop HX.out, hok]; rfl, hbel.trans (hb2.mono hbel.size)⟩
        case measure => simp [intOf]; omega
    · obtain rfl : k = l.length := by omega
      go_wp2
      go_ret
      exact ⟨-1, rfl, by rw [HS.out, nomore]; rfl, hbel⟩
theorem containsStep_any (s : Sh) (A : Option Addr) (c : Nat) (l : List Step) (g : Nat) (w : World) (hB : Blk w g 25 #[.int .i64 s.p.op, .int .i64 s.p.cl, .slice s.aH s.p.hol.length s.cH, .int .i64 s.p.mach, .slice s.aS s.p.setup.length s.cS, .slice s.aJ s.p.jobs.length s.cJ]) (h0 : 0 ≤ s.p.op) (h1 : s.p.op < s.p.cl) (h2 : s.p.cl ≤ 1440) (h3 : 1 ≤ s.p.mach) (h4 : s.p.mach ≤ 6) (hlen : l.length ≤ 1000) (hS : Slc Step.enc 4 w w.heap.size A l) :
    Calls Try.prog 72 #[.slice A l.length c, .func (.func 73) #[] #[.pointer (some ⟨g, 0, none⟩)]] w fun e w' => e = .returned (.bool (l.any fun x => !stepOk s.p x)) ∧ Below w.heap.size w w' := by
  go_enter Try.func72, Try.ntmps72
  go_wp2_with fail
  refine (indexStep_any s A c l g _ hB h0 h1 h2 h3 h4 hlen hS).mono ?_
  rintro e w2 ⟨r, rfl, hr, hb2⟩
  have HR := hide hr
  clear hr
  go_wp2
  go_ret
  exact ⟨ret_bool HR.out, hb2⟩
end Go.Proofs.Ytcpnfcnobnjhdaa

/- Which shops are valid: Valid of both texts, the walks. -/
namespace Go.Proofs.Ytcpnfcnobnjhdaa
open Go.RowKit
theorem holsOk_bad1 {prev d : Int} {l : List Int} {k : Nat} (hk : l[k]? = some d) (h : inB 0 d 10000 = false) : holsOk prev (l.drop k) = false := by rw [holsOk_step hk, h]; rfl
theorem holsOk_bad2 {prev d : Int} {l : List Int} {k : Nat} (hk : l[k]? = some d) (h : d ≤ prev) : holsOk prev (l.drop k) = false := by
  rw [holsOk_step hk]
  have : decide (prev < d) = false := by simpa using h
  rw [this]; simp
theorem holsOk_good {prev d : Int} {l : List Int} {k : Nat} (hk : l[k]? = some d) (h : inB 0 d 10000 = true) (h' : prev < d) : holsOk prev (l.drop k) = holsOk d (l.drop (k + 1)) := by
  rw [holsOk_step hk, h]
  have : decide (prev < d) = true := by simpa using h'
  rw [this]; rfl

set_option maxHeartbeats 4000000 in
set_option maxRecDepth 100000 in
theorem valid_any (s : Sh) (w : World) (hS : ShAt w w.heap.size s) (m1 : s.p.hol.length ≤ 9223372036854775807) (m2 : s.p.setup.length ≤ 9223372036854775807) (m3 : s.p.jobs.length ≤ 9223372036854775807) (m4 : ∀ l ∈ s.p.jobs, l.length ≤ 9223372036854775807) :
    Calls Try.prog 47 #[.agg #[.int .i64 s.p.op, .int .i64 s.p.cl, .slice s.aH s.p.hol.length s.cH, .int .i64 s.p.mach, .slice s.aS s.p.setup.length s.cS, .slice s.aJ s.p.jobs.length s.cJ]] w fun e w' => e = .returned (.bool (validShop s.p)) ∧ Below w.heap.size w w' := by
  obtain ⟨p, aH, cH, aS, cS, aJ, cJ⟩ := s
  obtain ⟨hS1, hS2, hS3⟩ := hS
  dsimp only at *
  have HV : Hid (validShop p = (headOk p && holsOk (-1) p.hol && p.setup.all (fun n => inB 0 n 1000) && p.jobs.all (jobOk p))) := rfl
  have HH : Hid (headOk p = (decide (0 ≤ p.op) && decide (p.op < p.cl) && decide (p.cl ≤ 1440) && decide (p.hol.length ≤ 400) && inB 1 p.mach 6 && decide ((p.setup.length : Int) = p.mach) && decide (p.jobs.length ≤ 12))) := rfl
  have H4 := hide m4
  clear m4
  by_cases g1 : p.op < 0
  · go_enter Try.func47, Try.ntmps47
    go_wp2_with (go_at_call 50; refine (within_any _ _ _ _).mono ?_; rintro e w' ⟨rfl, rfl⟩)
    go_ret
    have : ¬ (0 ≤ p.op) := by omega
    exact ⟨ret_bool (by rw [HV.out, HH.out]; simp [this]), (Below.refl _ _).alloc (Nat.le_refl _) _⟩
  by_cases g2 : p.cl ≤ p.op
  · go_enter Try.func47, Try.ntmps47
    go_wp2_with (go_at_call 50; refine (within_any _ _ _ _).mono ?_; rintro e w' ⟨rfl, rfl⟩)
    go_ret
    have : ¬ (p.op < p.cl) := by omega
    exact ⟨ret_bool (by rw [HV.out, HH.out]; simp [this]), (Below.refl _ _).alloc (Nat.le_refl _) _⟩
  by_cases g3 : 1440 < p.cl
  · go_enter Try.func47, Try.ntmps47
    go_wp2_with (go_at_call 50; refine (within_any _ _ _ _).mono ?_; rintro e w' ⟨rfl, rfl⟩)
    go_ret
    have : ¬ (p.cl ≤ 1440) := by omega
    exact ⟨ret_bool (by rw [HV.out, HH.out]; simp [this]), (Below.refl _ _).alloc (Nat.le_refl _) _⟩
  by_cases g4 : 400 < p.hol.length
  · go_enter Try.func47, Try.ntmps47
    go_wp2_with (go_at_call 50; refine (within_any _ _ _ _).mono ?_; rintro e w' ⟨rfl, rfl⟩)
    go_ret
    have : ¬ (p.hol.length ≤ 400) := by omega
    exact ⟨ret_bool (by rw [HV.out, HH.out]; simp [this]), (Below.refl _ _).alloc (Nat.le_refl _) _⟩
  cases g5 : inB 1 p.mach 6
  · go_enter Try.func47, Try.ntmps47
    go_wp2_with (go_at_call 50; refine (within_any _ _ _ _).mono ?_; rintro e w' ⟨rfl, rfl⟩)
    go_ret
    skip
    exact ⟨ret_bool (by rw [HV.out, HH.out]; simp [g5]), (Below.refl _ _).alloc (Nat.le_refl _) _⟩
  by_cases g6 : ((p.setup.length : Int) != p.mach) = true
  · go_enter Try.func47, Try.ntmps47
    go_wp2_with (go_at_call 50; refine (within_any _ _ _ _).mono ?_; rintro e w' ⟨rfl, rfl⟩)
    go_ret
    have : ¬ ((p.setup.length : Int) = p.mach) := by simpa using g6
    exact ⟨ret_bool (by rw [HV.out, HH.out]; simp [this]), (Below.refl _ _).alloc (Nat.le_refl _) _⟩
  by_cases g7 : 12 < p.jobs.length
  · go_enter Try.func47, Try.ntmps47
    go_wp2_with (go_at_call 50; refine (within_any _ _ _ _).mono ?_; rintro e w' ⟨rfl, rfl⟩)
    go_ret
    have : ¬ (p.jobs.length ≤ 12) := by omega
    exact ⟨ret_bool (by rw [HV.out, HH.out]; simp [this]), (Below.refl _ _).alloc (Nat.le_refl _) _⟩
  have g5' := inB_iff.1 g5
  have g6' : ((p.setup.length : Int) != p.mach) = false := by simpa using g6
  have hv : validShop p = (holsOk (-1) p.hol && p.setup.all (fun n => inB 0 n 1000) && p.jobs.all (jobOk p)) := by
    have e6 : (p.setup.length : Int) = p.mach := by simpa using g6
    have a1 : 0 ≤ p.op := by omega
    have a2 : p.op < p.cl := by omega
    have a3 : p.cl ≤ 1440 := by omega
    have a4 : p.hol.length ≤ 400 := by omega
    have a7 : p.jobs.length ≤ 12 := by omega
    rw [HV.out, HH.out, g5]; simp [e6, a1, a2, a3, a4, a7]
  have HV2 := hide hv
  obtain ⟨g51, g52⟩ := g5'
  clear hv g6
  go_enter Try.func47, Try.ntmps47
  go_wp2_with (go_at_call 50; refine (within_any _ _ _ _).mono ?_; rintro e w' ⟨rfl, rfl⟩)
  go_loopw [53] (fun i wr => ∃ (k : Nat) (prev : Int), k ≤ p.hol.length ∧ i = .int .i64 k ∧ holsOk (-1) p.hol = holsOk prev (p.hol.drop k) ∧ (∀ j, k = j + 1 → p.hol[j]? = some prev) ∧ (k = 0 → prev = -1) ∧ Blk wr w.heap.size 25 #[.int .i64 p.op, .int .i64 p.cl, .slice aH p.hol.length cH, .int .i64 p.mach, .slice aS p.setup.length cS, .slice aJ p.jobs.length cJ] ∧ Below w.heap.size w wr) (fun i _ => p.hol.length - (intOf i).toNat)
  case atStart => exact ⟨0, -1, Nat.zero_le _, rfl, rfl, fun j h => by omega, fun _ => rfl, Blk.new _ _ _, (Below.refl _ _).alloc (Nat.le_refl _) _⟩
  case round =>
    obtain ⟨k, prev, hk, rfl, hs, hp, hp0, hblk, hbel⟩ := hrel
    have HS := hide hs
    have c2 := hblk.cell_ 2 rfl
    have c4 := hblk.cell_ 4 rfl
    clear hs
    by_cases hlt : k < p.hol.length
    · obtain ⟨d, b, off, hx, hA, hb, hc⟩ := ints_at' (hS1.below hbel) hlt
      have HX := hide hx
      subst hA
      clear hx
      cases hd : inB 0 d 10000
      · go_wp2_with (go_at_call 50; refine (within_any _ _ _ _).mono ?_; rintro e w' ⟨rfl, rfl⟩)
        go_ret
        exact ⟨ret_bool (by rw [HV2.out, HS.out, holsOk_bad1 HX.out hd]; rfl), hbel⟩
      · rcases k with _ | j
        · have hpe := hp0 rfl
          have hd0 := (inB_iff.1 hd).1
          have HE := hide hpe
          clear hpe hp hp0
          rw [Nat.add_zero] at hc
          go_wp2_with (go_at_call 50; refine (within_any _ _ _ _).mono ?_; rintro e w' ⟨rfl, rfl⟩)
          go_roundw
          case rel => exact ⟨1, d, by omega, by go_num, by rw [HS.out]; exact holsOk_good HX.out hd (by rw [HE.out]; omega), (by intro j hj; have e : j = 0 := (by omega); rw [e]; exact HX.out), fun h => by omega, hblk, hbel⟩
          case measure => simp [intOf]; omega
        · have hpr := hp j rfl
          obtain ⟨d', b', off', hx', hA', hb', hc'⟩ := ints_at' (k := j) (hS1.below hbel) (by omega)
          obtain ⟨rfl, rfl⟩ : b = b' ∧ off = off' := by injection hA' with hA'; injection hA' with h1 h2; exact ⟨h1, h2⟩
          obtain rfl : d' = prev := by rw [hpr] at hx'; injection hx' with hx'; exact hx'.symm
          clear hp hp0 hpr hx' hA'
          by_cases hlt2 : d ≤ d'
          · go_wp2_with (go_at_call 50; refine (within_any _ _ _ _).mono ?_; rintro e w' ⟨rfl, rfl⟩)
            go_ret
            exact ⟨ret_bool (by rw [HV2.out, HS.out, holsOk_bad2 HX.out hlt2]; rfl), hbel⟩
          · go_wp2_with (go_at_call 50; refine (within_any _ _ _ _).mono ?_; rintro e w' ⟨rfl, rfl⟩)
            go_roundw
            case rel => exact ⟨j + 1 + 1, d, by omega, by go_num, by rw [HS.out]; exact holsOk_good HX.out hd (by omega), (by intro j' hj; have e : j' = j + 1 := (by omega); rw [e]; exact HX.out), fun h => by omega, hblk, hbel⟩
            case measure => simp [intOf]; omega
    · obtain rfl : k = p.hol.length := by omega
      have h1 : holsOk (-1) p.hol = true := by rw [HS.out, nomore]; rfl
      have HV3 := hide (show validShop p = (p.setup.all (fun n => inB 0 n 1000) && p.jobs.all (jobOk p)) by rw [HV2.out, h1]; rfl)
      clear h1 hp hp0 c2
      go_wp2_with fail
      go_loopw [79] (fun i wr => ∃ (k : Nat), k ≤ p.setup.length ∧ i = .int .i64 k ∧ p.setup.all (fun n => inB 0 n 1000) = (p.setup.drop k).all (fun n => inB 0 n 1000) ∧ Blk wr w.heap.size 25 #[.int .i64 p.op, .int .i64 p.cl, .slice aH p.hol.length cH, .int .i64 p.mach, .slice aS p.setup.length cS, .slice aJ p.jobs.length cJ] ∧ Below w.heap.size w wr) (fun i _ => p.setup.length - (intOf i).toNat)
      case atStart => exact ⟨0, Nat.zero_le _, rfl, rfl, hblk, hbel⟩
      case round =>
        clear hblk hbel c4
        obtain ⟨k, hk, rfl, hs, hblk, hbel⟩ := hrel
        have HS2 := hide hs
        have c4 := hblk.cell_ 4 rfl
        have c5 := hblk.cell_ 5 rfl
        clear hs
        by_cases hlt : k < p.setup.length
        · obtain ⟨d, b, off, hx, hA, hb, hc⟩ := ints_at' (hS2.below hbel) hlt
          have HX := hide hx
          subst hA
          clear hx
          cases hd : inB 0 d 1000
          · go_wp2_with (go_at_call 50; refine (within_any _ _ _ _).mono ?_; rintro e w' ⟨rfl, rfl⟩)
            go_ret
            exact ⟨ret_bool (by rw [HV3.out, HS2.out, all_drop HX.out, hd]; rfl), hbel⟩
          · go_wp2_with (go_at_call 50; refine (within_any _ _ _ _).mono ?_; rintro e w' ⟨rfl, rfl⟩)
            go_roundw
            case rel => exact ⟨k + 1, by omega, by go_num, by rw [HS2.out, all_drop HX.out, hd]; rfl, hblk, hbel⟩
            case measure => simp [intOf]; omega
        · obtain rfl : k = p.setup.length := by omega
          have h1 : p.setup.all (fun n => inB 0 n 1000) = true := by rw [HS2.out, nomore]; rfl
          have HV4 := hide (show validShop p = p.jobs.all (jobOk p) by rw [HV3.out, h1]; rfl)
          clear h1 c4
          go_wp2_with fail
          go_loopw [90] (fun i wr => ∃ (k : Nat), k ≤ p.jobs.length ∧ i = .int .i64 k ∧ p.jobs.all (jobOk p) = (p.jobs.drop k).all (jobOk p) ∧ Blk wr w.heap.size 25 #[.int .i64 p.op, .int .i64 p.cl, .slice aH p.hol.length cH, .int .i64 p.mach, .slice aS p.setup.length cS, .slice aJ p.jobs.length cJ] ∧ Below w.heap.size w wr) (fun i _ => p.jobs.length - (intOf i).toNat)
          case atStart => exact ⟨0, Nat.zero_le _, rfl, rfl, hblk, hbel⟩
          case round =>
            clear hblk hbel c5
            obtain ⟨k, hk, rfl, hs, hblk, hbel⟩ := hrel
            have HS3 := hide hs
            have c5 := hblk.cell_ 5 rfl
            clear hs
            by_cases hlt : k < p.jobs.length
            · obtain ⟨l, b, off, A', c', hx, hA, hb, hc, hSl⟩ := jobs_at (hS3.keep fun _ hp => hbel.cell hp) hlt
              have hl := H4.out l (List.mem_of_getElem? hx)
              have HX := hide hx
              subst hA
              clear hx
              have hmf : ∀ (fn : Fn) (first cap : Array Value) (w : World), (Instr.makeFunc fn first cap).run Try.prog w = .ok (.func fn first cap) w := fun _ _ _ _ => rfl
              have HJ : Hid (jobOk p l = (decide (l.length ≤ 8) && l.all (stepOk p))) := rfl
              by_cases h8 : 8 < l.length
              · go_wp2_with (go_at_call 50; refine (within_any _ _ _ _).mono ?_; rintro e w' ⟨rfl, rfl⟩)
                go_ret
                exact ⟨ret_bool (by rw [HV4.out, HS3.out, all_drop HX.out, HJ.out]; simp; omega), hbel.alloc hbel.size _⟩
              · go_wp2_with fail
                refine (containsStep_any ⟨p, aH, cH, aS, cS, _, cJ⟩ A' c' l _ _ (hblk.alloc _) (by omega) (by omega) (by omega) (by omega) (by omega) (by omega) ((hSl.more hbel.size).below ((Below.refl _ _).alloc (Nat.le_refl _) _) |>.more (by simp))).mono ?_
                rintro e w2 ⟨rfl, hb2⟩
                have hb3 : Below w.heap.size w w2 := (hbel.alloc hbel.size _).trans (hb2.mono (by simp; have := hbel.size; omega))
                have hblk2 := (hblk.alloc _).below hb2 (by simp; have := hblk.lt; omega)
                cases hany : l.any fun x => !stepOk p x
                · have hall : jobOk p l = true := by
                    rw [HJ.out]
                    have : l.all (stepOk p) = true := by
                      rw [List.all_eq_true]; intro x hx
                      have := List.any_eq_false.1 hany x hx
                      simpa using this
                    rw [this]; simp; omega
                  have HA := hide hall
                  clear hall
                  go_wp2
                  go_roundw
                  case rel => exact ⟨k + 1, by omega, by go_num, by rw [HS3.out, all_drop HX.out, HA.out]; rfl, hblk2, hb3⟩
                  case measure => simp [intOf]; omega
                · have hno : jobOk p l = false := by
                    rw [HJ.out]
                    have : l.all (stepOk p) = false := by
                      obtain ⟨x, hx, hx2⟩ := List.any_eq_true.1 hany
                      rw [List.all_eq_false]
                      exact ⟨x, hx, by simpa using hx2⟩
                    rw [this]; simp
                  have HA := hide hno
                  clear hno
                  go_wp2
                  go_ret
                  exact ⟨ret_bool (by rw [HV4.out, HS3.out, all_drop HX.out, HA.out]; rfl), hb3⟩
            · obtain rfl : k = p.jobs.length := by omega
              go_wp2_with fail
              go_ret
              exact ⟨ret_bool (by rw [HV4.out, HS3.out, nomore]; rfl), hbel⟩
end Go.Proofs.Ytcpnfcnobnjhdaa

/- Which shops are valid: Valid of the specification, the walk. -/
namespace Go.Proofs.Ytcpnfcnobnjhdaa
open Go.RowKit

set_option maxHeartbeats 4000000 in
set_option maxRecDepth 100000 in
theorem refValid_any (s : Sh) (w : World) (hS : ShAt w w.heap.size s) (m1 : s.p.hol.length ≤ 9223372036854775807) (m2 : s.p.setup.length ≤ 9223372036854775807) (m3 : s.p.jobs.length ≤ 9223372036854775807) (m4 : ∀ l ∈ s.p.jobs, l.length ≤ 9223372036854775807) :
    Calls Try.prog 19 #[.agg #[.int .i64 s.p.op, .int .i64 s.p.cl, .slice s.aH s.p.hol.length s.cH, .int .i64 s.p.mach, .slice s.aS s.p.setup.length s.cS, .slice s.aJ s.p.jobs.length s.cJ]] w fun e w' => e = .returned (.bool (validShop s.p)) ∧ Below w.heap.size w w' := by
  obtain ⟨p, aH, cH, aS, cS, aJ, cJ⟩ := s
  obtain ⟨hS1, hS2, hS3⟩ := hS
  dsimp only at *
  have HV : Hid (validShop p = (headOk p && holsOk (-1) p.hol && p.setup.all (fun n => inB 0 n 1000) && p.jobs.all (jobOk p))) := rfl
  have HH : Hid (headOk p = (decide (0 ≤ p.op) && decide (p.op < p.cl) && decide (p.cl ≤ 1440) && decide (p.hol.length ≤ 400) && inB 1 p.mach 6 && decide ((p.setup.length : Int) = p.mach) && decide (p.jobs.length ≤ 12))) := rfl
  have H4 := hide m4
  clear m4
  by_cases g1 : p.op < 0
  · go_enter Try.func19, Try.ntmps19
    go_wp2_with (go_at_call 48; refine (refWithin_any _ _ _ _).mono ?_; rintro e w' ⟨rfl, rfl⟩)
    go_ret
    have : ¬ (0 ≤ p.op) := by omega
    exact ⟨ret_bool (by rw [HV.out, HH.out]; simp [this]), (Below.refl _ _).alloc (Nat.le_refl _) _⟩
  by_cases g2 : p.cl ≤ p.op
  · go_enter Try.func19, Try.ntmps19
    go_wp2_with (go_at_call 48; refine (refWithin_any _ _ _ _).mono ?_; rintro e w' ⟨rfl, rfl⟩)
    go_ret
    have : ¬ (p.op < p.cl) := by omega
    exact ⟨ret_bool (by rw [HV.out, HH.out]; simp [this]), (Below.refl _ _).alloc (Nat.le_refl _) _⟩
  by_cases g3 : 1440 < p.cl
  · go_enter Try.func19, Try.ntmps19
    go_wp2_with (go_at_call 48; refine (refWithin_any _ _ _ _).mono ?_; rintro e w' ⟨rfl, rfl⟩)
    go_ret
    have : ¬ (p.cl ≤ 1440) := by omega
    exact ⟨ret_bool (by rw [HV.out, HH.out]; simp [this]), (Below.refl _ _).alloc (Nat.le_refl _) _⟩
  by_cases g4 : 400 < p.hol.length
  · go_enter Try.func19, Try.ntmps19
    go_wp2_with (go_at_call 48; refine (refWithin_any _ _ _ _).mono ?_; rintro e w' ⟨rfl, rfl⟩)
    go_ret
    have : ¬ (p.hol.length ≤ 400) := by omega
    exact ⟨ret_bool (by rw [HV.out, HH.out]; simp [this]), (Below.refl _ _).alloc (Nat.le_refl _) _⟩
  cases g5 : inB 1 p.mach 6
  · go_enter Try.func19, Try.ntmps19
    go_wp2_with (go_at_call 48; refine (refWithin_any _ _ _ _).mono ?_; rintro e w' ⟨rfl, rfl⟩)
    go_ret
    skip
    exact ⟨ret_bool (by rw [HV.out, HH.out]; simp [g5]), (Below.refl _ _).alloc (Nat.le_refl _) _⟩
  by_cases g6 : ((p.setup.length : Int) != p.mach) = true
  · go_enter Try.func19, Try.ntmps19
    go_wp2_with (go_at_call 48; refine (refWithin_any _ _ _ _).mono ?_; rintro e w' ⟨rfl, rfl⟩)
    go_ret
    have : ¬ ((p.setup.length : Int) = p.mach) := by simpa using g6
    exact ⟨ret_bool (by rw [HV.out, HH.out]; simp [this]), (Below.refl _ _).alloc (Nat.le_refl _) _⟩
  by_cases g7 : 12 < p.jobs.length
  · go_enter Try.func19, Try.ntmps19
    go_wp2_with (go_at_call 48; refine (refWithin_any _ _ _ _).mono ?_; rintro e w' ⟨rfl, rfl⟩)
    go_ret
    have : ¬ (p.jobs.length ≤ 12) := by omega
    exact ⟨ret_bool (by rw [HV.out, HH.out]; simp [this]), (Below.refl _ _).alloc (Nat.le_refl _) _⟩
  have g5' := inB_iff.1 g5
  have g6' : ((p.setup.length : Int) != p.mach) = false := by simpa using g6
  have hv : validShop p = (holsOk (-1) p.hol && p.setup.all (fun n => inB 0 n 1000) && p.jobs.all (jobOk p)) := by
    have e6 : (p.setup.length : Int) = p.mach := by simpa using g6
    have a1 : 0 ≤ p.op := by omega
    have a2 : p.op < p.cl := by omega
    have a3 : p.cl ≤ 1440 := by omega
    have a4 : p.hol.length ≤ 400 := by omega
    have a7 : p.jobs.length ≤ 12 := by omega
    rw [HV.out, HH.out, g5]; simp [e6, a1, a2, a3, a4, a7]
  have HV2 := hide hv
  obtain ⟨g51, g52⟩ := g5'
  clear hv g6
  go_enter Try.func19, Try.ntmps19
  go_wp2_with (go_at_call 48; refine (refWithin_any _ _ _ _).mono ?_; rintro e w' ⟨rfl, rfl⟩)
  go_loopw [3] (fun i wr => ∃ (k : Nat) (prev : Int), k ≤ p.hol.length ∧ i = .int .i64 k ∧ holsOk (-1) p.hol = holsOk prev (p.hol.drop k) ∧ (∀ j, k = j + 1 → p.hol[j]? = some prev) ∧ (k = 0 → prev = -1) ∧ Blk wr w.heap.size 25 #[.int .i64 p.op, .int .i64 p.cl, .slice aH p.hol.length cH, .int .i64 p.mach, .slice aS p.setup.length cS, .slice aJ p.jobs.length cJ] ∧ Below w.heap.size w wr) (fun i _ => p.hol.length - (intOf i).toNat)
  case atStart => exact ⟨0, -1, Nat.zero_le _, rfl, rfl, fun j h => by omega, fun _ => rfl, Blk.new _ _ _, (Below.refl _ _).alloc (Nat.le_refl _) _⟩
  case round =>
    obtain ⟨k, prev, hk, rfl, hs, hp, hp0, hblk, hbel⟩ := hrel
    have HS := hide hs
    have c2 := hblk.cell_ 2 rfl
    have c4 := hblk.cell_ 4 rfl
    clear hs
    by_cases hlt : k < p.hol.length
    · obtain ⟨d, b, off, hx, hA, hb, hc⟩ := ints_at' (hS1.below hbel) hlt
      have HX := hide hx
      subst hA
      clear hx
      cases hd : inB 0 d 10000
      · go_wp2_with fail
        refine wp_region_quiet (C := fun w' => ∃ u : Since wr, w' = u.w) (by kernel_rfl) (by kernel_rfl) (Since.start wr) ?_
        dsimp only
        have y2 := Since.cell c2
        have yc := Since.cell hc
        skip
        repeat (go_big_quiet_step ((go_at_call 48; exact Since.calls_same (refWithin_any _ _ _ _))))
        refine wpQuiet_nil ?_
        rintro _ ⟨u, rfl⟩
        have hblk := hblk.below u.h hblk.lt
        have hbel := hbel.trans (u.h.mono hbel.size)
        go_wp2_with fail
        go_ret
        exact ⟨ret_bool (by rw [HV2.out, HS.out, holsOk_bad1 HX.out hd]; rfl), hbel⟩
      · rcases k with _ | j
        · have hpe := hp0 rfl
          have hd0 := (inB_iff.1 hd).1
          have HE := hide hpe
          clear hpe hp hp0
          rw [Nat.add_zero] at hc
          go_wp2_with fail
          refine wp_region_quiet (C := fun w' => ∃ u : Since wr, w' = u.w) (by kernel_rfl) (by kernel_rfl) (Since.start wr) ?_
          dsimp only
          have y2 := Since.cell c2
          have yc := Since.cell hc
          skip
          repeat (go_big_quiet_step ((go_at_call 48; exact Since.calls_same (refWithin_any _ _ _ _))))
          refine wpQuiet_nil ?_
          rintro _ ⟨u, rfl⟩
          have hblk := hblk.below u.h hblk.lt
          have hbel := hbel.trans (u.h.mono hbel.size)
          go_wp2_with fail
          go_roundw
          case rel => exact ⟨1, d, by omega, by go_num, by rw [HS.out]; exact holsOk_good HX.out hd (by rw [HE.out]; omega), (by intro j hj; have e : j = 0 := (by omega); rw [e]; exact HX.out), fun h => by omega, hblk, hbel⟩
          case measure => simp [intOf]; omega
        · have hpr := hp j rfl
          obtain ⟨d', b', off', hx', hA', hb', hc'⟩ := ints_at' (k := j) (hS1.below hbel) (by omega)
          obtain ⟨rfl, rfl⟩ : b = b' ∧ off = off' := by injection hA' with hA'; injection hA' with h1 h2; exact ⟨h1, h2⟩
          obtain rfl : d' = prev := by rw [hpr] at hx'; injection hx' with hx'; exact hx'.symm
          clear hp hp0 hpr hx' hA'
          by_cases hlt2 : d ≤ d'
          · go_wp2_with fail
            refine wp_region_quiet (C := fun w' => ∃ u : Since wr, w' = u.w) (by kernel_rfl) (by kernel_rfl) (Since.start wr) ?_
            dsimp only
            have y2 := Since.cell c2
            have yc := Since.cell hc
            have yc' := Since.cell hc'
            repeat (go_big_quiet_step ((go_at_call 48; exact Since.calls_same (refWithin_any _ _ _ _))))
            refine wpQuiet_nil ?_
            rintro _ ⟨u, rfl⟩
            have hblk := hblk.below u.h hblk.lt
            have hbel := hbel.trans (u.h.mono hbel.size)
            go_wp2_with fail
            go_ret
            exact ⟨ret_bool (by rw [HV2.out, HS.out, holsOk_bad2 HX.out hlt2]; rfl), hbel⟩
          · go_wp2_with fail
            refine wp_region_quiet (C := fun w' => ∃ u : Since wr, w' = u.w) (by kernel_rfl) (by kernel_rfl) (Since.start wr) ?_
            dsimp only
            have y2 := Since.cell c2
            have yc := Since.cell hc
            have yc' := Since.cell hc'
            repeat (go_big_quiet_step ((go_at_call 48; exact Since.calls_same (refWithin_any _ _ _ _))))
            refine wpQuiet_nil ?_
            rintro _ ⟨u, rfl⟩
            have hblk := hblk.below u.h hblk.lt
            have hbel := hbel.trans (u.h.mono hbel.size)
            go_wp2_with fail
            go_roundw
            case rel => exact ⟨j + 1 + 1, d, by omega, by go_num, by rw [HS.out]; exact holsOk_good HX.out hd (by omega), (by intro j' hj; have e : j' = j + 1 := (by omega); rw [e]; exact HX.out), fun h => by omega, hblk, hbel⟩
            case measure => simp [intOf]; omega
    · obtain rfl : k = p.hol.length := by omega
      have h1 : holsOk (-1) p.hol = true := by rw [HS.out, nomore]; rfl
      have HV3 := hide (show validShop p = (p.setup.all (fun n => inB 0 n 1000) && p.jobs.all (jobOk p)) by rw [HV2.out, h1]; rfl)
      clear h1 hp hp0
      go_wp2_with fail
      go_loopw [4] (fun i wr => ∃ (k : Nat), k ≤ p.setup.length ∧ i = .int .i64 k ∧ p.setup.all (fun n => inB 0 n 1000) = (p.setup.drop k).all (fun n => inB 0 n 1000) ∧ Blk wr w.heap.size 25 #[.int .i64 p.op, .int .i64 p.cl, .slice aH p.hol.length cH, .int .i64 p.mach, .slice aS p.setup.length cS, .slice aJ p.jobs.length cJ] ∧ Below w.heap.size w wr) (fun i _ => p.setup.length - (intOf i).toNat)
      case atStart => exact ⟨0, Nat.zero_le _, rfl, rfl, hblk, hbel⟩
      case round =>
        clear hblk hbel c4
        obtain ⟨k, hk, rfl, hs, hblk, hbel⟩ := hrel
        have HS2 := hide hs
        have c4 := hblk.cell_ 4 rfl
        have c5 := hblk.cell_ 5 rfl
        clear hs
        by_cases hlt : k < p.setup.length
        · obtain ⟨d, b, off, hx, hA, hb, hc⟩ := ints_at' (hS2.below hbel) hlt
          have HX := hide hx
          subst hA
          clear hx
          cases hd : inB 0 d 1000
          · go_wp2_with (go_at_call 48; refine (refWithin_any _ _ _ _).mono ?_; rintro e w' ⟨rfl, rfl⟩)
            go_ret
            exact ⟨ret_bool (by rw [HV3.out, HS2.out, all_drop HX.out, hd]; rfl), hbel⟩
          · go_wp2_with (go_at_call 48; refine (refWithin_any _ _ _ _).mono ?_; rintro e w' ⟨rfl, rfl⟩)
            go_roundw
            case rel => exact ⟨k + 1, by omega, by go_num, by rw [HS2.out, all_drop HX.out, hd]; rfl, hblk, hbel⟩
            case measure => simp [intOf]; omega
        · obtain rfl : k = p.setup.length := by omega
          have h1 : p.setup.all (fun n => inB 0 n 1000) = true := by rw [HS2.out, nomore]; rfl
          have HV4 := hide (show validShop p = p.jobs.all (jobOk p) by rw [HV3.out, h1]; rfl)
          clear h1
          go_wp2_with fail
          go_loopw [5] (fun i wr => ∃ (k : Nat), k ≤ p.jobs.length ∧ i = .int .i64 k ∧ p.jobs.all (jobOk p) = (p.jobs.drop k).all (jobOk p) ∧ Blk wr w.heap.size 25 #[.int .i64 p.op, .int .i64 p.cl, .slice aH p.hol.length cH, .int .i64 p.mach, .slice aS p.setup.length cS, .slice aJ p.jobs.length cJ] ∧ Below w.heap.size w wr) (fun i _ => p.jobs.length - (intOf i).toNat)
          case atStart => exact ⟨0, Nat.zero_le _, rfl, rfl, hblk, hbel⟩
          case round =>
            clear hblk hbel c5
            obtain ⟨k, hk, rfl, hs, hblk, hbel⟩ := hrel
            have HS3 := hide hs
            have c5 := hblk.cell_ 5 rfl
            clear hs
            by_cases hlt : k < p.jobs.length
            · obtain ⟨l, b, off, A', c', hx, hA, hb, hc, hSl⟩ := jobs_at (hS3.keep fun _ hp => hbel.cell hp) hlt
              have hl := H4.out l (List.mem_of_getElem? hx)
              have HX := hide hx
              subst hA
              clear hx
              have HJ : Hid (jobOk p l = (decide (l.length ≤ 8) && l.all (stepOk p))) := rfl
              by_cases h8 : 8 < l.length
              · go_wp2_with fail
                go_ret
                exact ⟨ret_bool (by rw [HV4.out, HS3.out, all_drop HX.out, HJ.out]; simp; omega), hbel⟩
              · have hJ1 : jobOk p l = l.all (stepOk p) := by rw [HJ.out]; simp; omega
                have HJ1 := hide hJ1
                clear hJ1
                obtain ⟨wo, rfl⟩ : ∃ wo : World, wo = wr := ⟨_, rfl⟩
                have hS1' := hS1.below hbel
                have hS2' := hS2.below hbel
                have hS3' := hS3.keep fun _ hp => hbel.cell hp
                have hSl' := hSl
                go_wp2_with fail
                go_loopw [7] (fun i wr => ∃ (q : Nat), q ≤ l.length ∧ i = .int .i64 q ∧ l.all (stepOk p) = (l.drop q).all (stepOk p) ∧ Blk wr w.heap.size 25 #[.int .i64 p.op, .int .i64 p.cl, .slice aH p.hol.length cH, .int .i64 p.mach, .slice aS p.setup.length cS, .slice (some ⟨b, off, none⟩) p.jobs.length cJ] ∧ Below wo.heap.size wo wr ∧ Below w.heap.size w wr) (fun i _ => l.length - (intOf i).toNat)
                case atStart => exact ⟨0, Nat.zero_le _, rfl, rfl, hblk, Below.refl _ _, hbel⟩
                case round =>
                  clear hblk c5
                  obtain ⟨q, hq, rfl, hs, hblk, hbo, hbel2⟩ := hrel
                  have HS4 := hide hs
                  clear hs
                  by_cases hlt2 : q < l.length
                  · obtain ⟨x, b2, off2, hx, hA2, hb2, e0, e1, e2, e3⟩ := steps_at ((hSl.more hbel.size).below hbo) hlt2
                    have HX2 := hide hx
                    subst hA2
                    clear hx
                    have hSh : ShAt wr wr.heap.size ⟨p, aH, cH, aS, cS, some ⟨b, off, none⟩, cJ⟩ := ⟨(hS1.below hbel2).more hbel2.size, (hS2.below hbel2).more hbel2.size, (hS3.keep fun _ hp => hbel2.cell hp).more hbel2.size⟩
                    have HSh := hide hSh
                    clear hSh
                    go_wp2_with fail
                    refine wp_region_quiet (C := fun w' => ∃ u : Since wr, w' = u.w) (by kernel_rfl) (by kernel_rfl) (Since.start wr) ?_
                    dsimp only
                    have y0 := Since.cell (hblk.cell_ 0 rfl)
                    have y1 := Since.cell (hblk.cell_ 1 rfl)
                    have y2 := Since.cell (hblk.cell_ 2 rfl)
                    have y3 := Since.cell (hblk.cell_ 3 rfl)
                    have y4 := Since.cell (hblk.cell_ 4 rfl)
                    have y5 := Since.cell (hblk.cell_ 5 rfl)
                    have z0 := Since.cell e0
                    have z1 := Since.cell e1
                    have z2 := Since.cell e2
                    have z3 := Since.cell e3
                    repeat (go_big_quiet_step ((go_at_call 49; exact Since.calls (refStep_any ⟨p, aH, cH, aS, cS, some ⟨b, off, none⟩, cJ⟩ x _ (by omega) (by omega) (by omega) (by omega) (by omega)))))
                    refine wpQuiet_nil ?_
                    rintro _ ⟨u, rfl⟩
                    have hb3 := hbel2.trans (u.h.mono hbel2.size)
                    cases hok : stepOk p x
                    · go_wp2
                      go_ret
                      exact ⟨ret_bool (by rw [HV4.out, HS3.out, all_drop HX.out, HJ1.out, HS4.out, all_drop HX2.out, hok]; rfl), hb3⟩
                    · go_wp2
                      go_roundw
                      case rel => exact ⟨q + 1, by omega, by go_num, by rw [HS4.out, all_drop HX2.out, hok]; rfl, hblk.below u.h hblk.lt, hbo.trans (u.h.mono hbo.size), hb3⟩
                      case measure => simp [intOf]; omega
                  · obtain rfl : q = l.length := by omega
                    have h1 : jobOk p l = true := by rw [HJ1.out, HS4.out, nomore]; rfl
                    have HA := hide h1
                    clear h1
                    go_wp2_with fail
                    go_roundw
                    case rel => exact ⟨k + 1, by omega, by go_num, by rw [HS3.out, all_drop HX.out, HA.out]; rfl, hblk, hbel2⟩
                    case measure => simp [intOf]; omega
            · obtain rfl : k = p.jobs.length := by omega
              go_wp2_with fail
              go_ret
              exact ⟨ret_bool (by rw [HV4.out, HS3.out, nomore]; rfl), hbel⟩
end Go.Proofs.Ytcpnfcnobnjhdaa

/- slices.BinarySearch at []int: the walk; whether a day is free. -/
namespace Go.Proofs.Ytcpnfcnobnjhdaa
open Go.RowKit
theorem less_any (a b : Int) (w : World) : Calls Try.prog 87 #[.int .i64 a, .int .i64 b] w fun e w' => e = .returned (.bool (decide (a < b))) ∧ w = w' := by
  by_cases h : a < b
  · go_enter Try.func87, Try.ntmps87
    go_wp2
    go_ret
    exact ⟨ret_bool (by simp [h]), rfl⟩
  · go_enter Try.func87, Try.ntmps87
    go_wp2
    go_ret
    exact ⟨ret_bool (by simp; omega), rfl⟩
theorem nan_any (a : Int) (w : World) : Calls Try.prog 88 #[.int .i64 a] w fun e w' => e = .returned (.bool false) ∧ w = w' := by
  go_enter Try.func88, Try.ntmps88
  go_wp2
  go_ret
  exact ⟨rfl, rfl⟩

/-- how many elements are less than x -/
def lbN (l : List Int) (x : Int) : Nat := l.countP fun y => decide (y < x)
theorem lb_of {x : Int} : ∀ {l : List Int} {i : Nat}, i ≤ l.length → (∀ (j : Nat) y, l[j]? = some y → j < i → y < x) → (∀ (j : Nat) y, l[j]? = some y → i ≤ j → x ≤ y) → lbN l x = i
  | [], i, hi, _, _ => by simp at hi; simp [lbN, hi]
  | y :: l, 0, _, _, h2 => by
    have h := lb_of (l := l) (i := 0) (x := x) (Nat.zero_le _) (fun j y _ hj => by omega) (fun j y hy _ => h2 (j + 1) y (by simpa using hy) (by omega))
    have := h2 0 y rfl (Nat.le_refl _)
    unfold lbN at h ⊢
    rw [List.countP_cons, h]
    simp; omega
  | y :: l, i + 1, hi, h1, h2 => by
    have h := lb_of (l := l) (i := i) (x := x) (by simpa using hi) (fun j y hy hj => h1 (j + 1) y (by simpa using hy) (by omega)) (fun j y hy hj => h2 (j + 1) y (by simpa using hy) (by omega))
    have := h1 0 y rfl (by omega)
    unfold lbN at h ⊢
    rw [List.countP_cons, h]
    simp; omega
/-- strictly ascending -/
def Asc (l : List Int) : Prop := ∀ (i j : Nat) y z, i < j → l[i]? = some y → l[j]? = some z → y < z
def hasB (l : List Int) (x : Int) : Bool := l.contains x
theorem asc_has {l : List Int} {x y : Int} {i : Nat} (h : Asc l) (hi : l[i]? = some y) (h1 : ∀ (j : Nat) z, l[j]? = some z → j < i → z < x) (h2 : x ≤ y) : hasB l x = (y == x) := by
  unfold hasB
  rw [Bool.eq_iff_iff, List.contains_iff_mem, beq_iff_eq]
  constructor
  · intro hm
    obtain ⟨j, hj⟩ := List.getElem?_of_mem hm
    rcases Nat.lt_trichotomy j i with hlt | rfl | hgt
    · have := h1 j x hj hlt; omega
    · rw [hi] at hj; injection hj
    · have := h i j y x hgt hi hj; omega
  · rintro rfl
    exact List.mem_of_getElem? hi
theorem asc_no {l : List Int} {x : Int} (h1 : ∀ (j : Nat) z, l[j]? = some z → z < x) : hasB l x = false := by
  unfold hasB
  rw [← Bool.not_eq_true, List.contains_iff_mem]
  intro hm
  obtain ⟨j, hj⟩ := List.getElem?_of_mem hm
  have := h1 j x hj
  omega
/-- the loop's state -/
def SearchAt (l : List Int) (x : Int) (i j : Nat) : Prop :=
  i ≤ j ∧ j ≤ l.length ∧ (∀ (k : Nat) y, l[k]? = some y → k < i → y < x) ∧ (∀ (k : Nat) y, l[k]? = some y → j ≤ k → x ≤ y)

set_option maxRecDepth 100000 in
theorem search_any (x : Int) (A : Option Addr) (c : Nat) (l : List Int) (w : World) (hlen : l.length ≤ 1000) (ha : Asc l) (hS : Slc intEnc 1 w w.heap.size A l) :
    Calls Try.prog 76 #[.slice A l.length c, .int .i64 x] w fun e w' => e = .returned (.tuple #[.int .i64 (lbN l x), .bool (hasB l x)]) ∧ w = w' := by
  have HA := hide ha
  clear ha
  go_enter Try.func76, Try.ntmps76
  go_wp2
  go_loop [7, 8] (fun a b => ∃ i j : Nat, i ≤ j ∧ j ≤ l.length ∧ a = .int .i64 i ∧ b = .int .i64 j ∧ SearchAt l x i j) (fun a b => (intOf b).toNat - (intOf a).toNat)
  case atStart => exact ⟨0, l.length, Nat.zero_le _, Nat.le_refl _, rfl, rfl, Nat.zero_le _, Nat.le_refl _, fun k y _ h => by omega, fun k y hy h => by have := (List.getElem?_eq_some_iff.1 hy).1; omega⟩
  case round =>
    obtain ⟨i, j, hij, hj, rfl, rfl, hat⟩ := hrel
    have HT := hide hat
    clear hat
    by_cases h : i < j
    · obtain ⟨y, b, off, hx, rfl, hb, hc⟩ := ints_at' (k := (i + j) / 2) hS (by omega)
      have HX := hide hx
      clear hx
      by_cases hy : y < x
      · have hd : decide (y < x) = true := by simpa using hy
        go_wp2_with (go_at_call 87; refine (less_any _ _ _).mono ?_; rintro e w' ⟨rfl, rfl⟩)
        go_round
        case rel => 
          obtain ⟨a1, a2, a3, a4⟩ := HT.out
          refine ⟨(i + j) / 2 + 1, j, by omega, hj, by go_num, rfl, by omega, hj, fun k z hz hk => ?_, a4⟩
          by_cases hke : k = (i + j) / 2
          · rw [hke, HX.out] at hz; injection hz with hz; omega
          · by_cases hki : k < (i + j) / 2
            · have := HA.out k ((i + j) / 2) z y hki hz HX.out; omega
            · omega
        case measure => simp [intOf]; omega
      · have hd : decide (y < x) = false := by simpa using hy
        go_wp2_with (go_at_call 87; refine (less_any _ _ _).mono ?_; rintro e w' ⟨rfl, rfl⟩)
        go_round
        case rel => 
          obtain ⟨a1, a2, a3, a4⟩ := HT.out
          refine ⟨i, (i + j) / 2, by omega, by omega, rfl, by go_num, by omega, by omega, a3, fun k z hz hk => ?_⟩
          by_cases hke : k = (i + j) / 2
          · rw [hke, HX.out] at hz; injection hz with hz; omega
          · have := HA.out ((i + j) / 2) k y z (by omega) HX.out hz; omega
        case measure => simp [intOf]; omega
    · obtain rfl : i = j := by omega
      by_cases hl : i < l.length
      · obtain ⟨y, b, off, hx, rfl, hb, hc⟩ := ints_at' (k := i) hS hl
        have e1 : lbN l x = i := lb_of HT.out.2.1 HT.out.2.2.1 HT.out.2.2.2
        have e2 : hasB l x = (y == x) := asc_has HA.out hx HT.out.2.2.1 (HT.out.2.2.2 i y hx (Nat.le_refl _))
        have E1 := hide e1
        have E2 := hide e2
        clear e1 e2 hx
        by_cases hyx : y = x
        · have hd : (y == x) = true := by simpa using hyx
          have E3 := hide hd
          clear hyx
          go_wp2_with (go_at_call 88; refine (nan_any _ _).mono ?_; rintro e w' ⟨rfl, rfl⟩)
          go_ret2
          exact ⟨ret_ib (by rw [E1.out]) (by rw [E2.out, E3.out]), rfl⟩
        · have hd : (y == x) = false := by simpa using hyx
          have E3 := hide hd
          clear hyx
          go_wp2_with (go_at_call 88; refine (nan_any _ _).mono ?_; rintro e w' ⟨rfl, rfl⟩)
          go_ret2
          exact ⟨ret_ib (by rw [E1.out]) (by rw [E2.out, E3.out]), rfl⟩
      · obtain rfl : i = l.length := by omega
        have e1 : lbN l x = l.length := lb_of (Nat.le_refl _) HT.out.2.2.1 HT.out.2.2.2
        have e2 : hasB l x = false := asc_no fun j z hz => HT.out.2.2.1 j z hz (List.getElem?_eq_some_iff.1 hz).1
        have E1 := hide e1
        have E2 := hide e2
        clear e1 e2
        go_wp2_with fail
        go_ret2
        exact ⟨ret_ib (by rw [E1.out]) (by rw [E2.out]), rfl⟩
end Go.Proofs.Ytcpnfcnobnjhdaa

/- The next start: the plain law. -/
namespace Go.Proofs.Ytcpnfcnobnjhdaa
theorem holsOk_asc : ∀ {l : List Int} {prev : Int}, holsOk prev l = true → (∀ (i : Nat) y, l[i]? = some y → prev < y ∧ 0 ≤ y ∧ y ≤ 10000) ∧ Asc l
  | [], prev, _ => ⟨fun i y h => by simp at h, fun i j y z _ h => by simp at h⟩
  | d :: r, prev, h => by
    simp only [holsOk, Bool.and_eq_true, decide_eq_true_eq] at h
    obtain ⟨⟨h1, h2⟩, h3⟩ := h
    have h1' := inB_iff.1 h1
    obtain ⟨ih1, ih2⟩ := holsOk_asc h3
    refine ⟨fun i y hy => ?_, fun i j y z hij hy hz => ?_⟩
    · cases i with
      | zero => simp at hy; omega
      | succ i => have := ih1 i y (by simpa using hy); omega
    · cases j with
      | zero => omega
      | succ j =>
        cases i with
        | zero =>
          simp at hy
          have := ih1 j z (by simpa using hz)
          omega
        | succ i => exact ih2 i j y z (by omega) (by simpa using hy) (by simpa using hz)
structure VShop (p : Shop) : Prop where
  op0 : 0 ≤ p.op
  opcl : p.op < p.cl
  cl : p.cl ≤ 1440
  holn : p.hol.length ≤ 400
  mach1 : 1 ≤ p.mach
  mach6 : p.mach ≤ 6
  setn : (p.setup.length : Int) = p.mach
  jobn : p.jobs.length ≤ 12
  asc : Asc p.hol
  hol : ∀ (i : Nat) y, p.hol[i]? = some y → 0 ≤ y ∧ y ≤ 10000
  setup : ∀ (i : Nat) y, p.setup[i]? = some y → 0 ≤ y ∧ y ≤ 1000
  steps : ∀ (i : Nat) l, p.jobs[i]? = some l → l.length ≤ 8 ∧ ∀ (j : Nat) x, l[j]? = some x → 0 ≤ x.m ∧ x.m ≤ p.mach - 1 ∧ 1 ≤ x.mi ∧ x.mi ≤ p.cl - p.op ∧ 0 ≤ x.c ∧ x.c ≤ 9 ∧ 0 ≤ x.d ∧ x.d ≤ 10000
theorem valid_facts {p : Shop} (h : validShop p = true) : VShop p := by
  simp only [validShop, headOk, Bool.and_eq_true, decide_eq_true_eq] at h
  obtain ⟨⟨⟨⟨⟨⟨⟨⟨⟨h1, h2⟩, h3⟩, h4⟩, h5⟩, h6⟩, h7⟩, h8⟩, h9⟩, h10⟩ := h
  have h5' := inB_iff.1 h5
  obtain ⟨a1, a2⟩ := holsOk_asc h8
  refine ⟨h1, h2, h3, h4, h5'.1, h5'.2, h6, h7, a2, fun i y hy => ⟨(a1 i y hy).2.1, (a1 i y hy).2.2⟩, fun i y hy => ?_, fun i l hl => ?_⟩
  · exact inB_iff.1 (List.all_eq_true.1 h9 y (List.mem_of_getElem? hy))
  · have hj := List.all_eq_true.1 h10 l (List.mem_of_getElem? hl)
    simp only [jobOk, Bool.and_eq_true, decide_eq_true_eq] at hj
    refine ⟨hj.1, fun j x hx => ?_⟩
    have hs := List.all_eq_true.1 hj.2 x (List.mem_of_getElem? hx)
    simp only [stepOk, Bool.and_eq_true, inB_iff] at hs
    omega
theorem has_bd {p : Shop} (h : VShop p) {d : Int} (hd : hasB p.hol d = true) : 0 ≤ d ∧ d ≤ 10000 := by
  unfold hasB at hd
  rw [List.contains_iff_mem] at hd
  obtain ⟨j, hj⟩ := List.getElem?_of_mem hd
  exact h.hol j d hj
/-- a step of so many minutes that starts at t lies within a shift -/
def shiftB (p : Shop) (t m : Int) : Bool := !hasB p.hol (t / 1440) && decide (p.op ≤ t % 1440) && decide (t % 1440 + m ≤ p.cl)
theorem shiftB_iff {p : Shop} {t m : Int} : shiftB p t m = true ↔ hasB p.hol (t / 1440) = false ∧ p.op ≤ t % 1440 ∧ t % 1440 + m ≤ p.cl := by
  simp [shiftB, and_assoc]
theorem shiftB_no {p : Shop} {t m : Int} (h : hasB p.hol (t / 1440) = true ∨ t % 1440 < p.op ∨ p.cl < t % 1440 + m) : shiftB p t m = false := by
  rw [← Bool.not_eq_true, shiftB_iff]
  rintro ⟨h1, h2, h3⟩
  rcases h with h | h | h
  · rw [h1] at h; cases h
  · omega
  · omega
def IsNext (p : Shop) (t m r : Int) : Prop := t ≤ r ∧ shiftB p r m = true ∧ ∀ r', t ≤ r' → r' < r → shiftB p r' m = false
theorem IsNext.unique {p : Shop} {t m r s : Int} (h : IsNext p t m r) (k : IsNext p t m s) : r = s := by
  rcases Int.lt_trichotomy r s with e | e | e
  · have := k.2.2 r h.1 e; rw [h.2.1] at this; cases this
  · exact e
  · have := h.2.2 s k.1 e; rw [k.2.1] at this; cases this
open Classical in
noncomputable def nextF (p : Shop) (t m : Int) : Int := if h : ∃ r, IsNext p t m r then h.choose else 0
theorem next_eq {p : Shop} {t m r : Int} (h : IsNext p t m r) : nextF p t m = r := by
  unfold nextF
  rw [dif_pos ⟨r, h⟩]
  exact IsNext.unique (Exists.choose_spec ⟨r, h⟩) h

/-- the loop's state: day d, minute a of the day -/
structure NextAt (p : Shop) (t m d a : Int) : Prop where
  d0 : t / 1440 ≤ d
  a0 : p.op ≤ a
  a1 : a < 1440
  le : t ≤ d * 1440 + a
  first : d = t / 1440 ∨ a = p.op
  most : d ≤ 10000 ∨ d ≤ t / 1440 + 1 ∨ d ≤ 10001
  no : ∀ r', t ≤ r' → r' < d * 1440 + a → shiftB p r' m = false
theorem div_of {d a r : Int} (h1 : d * 1440 ≤ r) (h2 : r < d * 1440 + 1440) (ha : r = d * 1440 + a) : r / 1440 = d ∧ r % 1440 = a := by omega
theorem NextAt.start {p : Shop} (hv : VShop p) {t m : Int} (ht : 0 ≤ t) : NextAt p t m (t / 1440) (if t % 1440 < p.op then p.op else t % 1440) := by
  have h1 := hv.op0
  have h2 := hv.opcl
  have h3 := hv.cl
  split
  · refine ⟨Int.le_refl _, Int.le_refl _, by omega, by omega, .inl rfl, by omega, fun r' h4 h5 => shiftB_no (.inr (.inl ?_))⟩
    omega
  · refine ⟨Int.le_refl _, by omega, by omega, by omega, .inl rfl, by omega, fun r' h4 h5 => by omega⟩
theorem NextAt.stop {p : Shop} {t m d a : Int} (h : NextAt p t m d a) (hf : hasB p.hol d = false) (hm : a + m ≤ p.cl) (ha : 0 ≤ a) : IsNext p t m (d * 1440 + a) := by
  have h1 := h.a1
  obtain ⟨e1, e2⟩ := div_of (d := d) (a := a) (r := d * 1440 + a) (by omega) (by omega) rfl
  exact ⟨h.le, shiftB_iff.2 ⟨by rw [e1]; exact hf, by rw [e2]; exact h.a0, by rw [e2]; exact hm⟩, h.no⟩
theorem NextAt.go_on {p : Shop} (hv : VShop p) {t m d a : Int} (h : NextAt p t m d a) (hm1 : p.op + m ≤ p.cl) (hf : hasB p.hol d = true ∨ p.cl < a + m) : NextAt p t m (d + 1) p.op ∧ (d ≤ 10000 ∨ d ≤ t / 1440) := by
  have h1 := hv.op0
  have h2 := hv.opcl
  have h3 := hv.cl
  have k0 := h.d0
  have k1 := h.a0
  have k2 := h.a1
  have k3 := h.le
  have hd : d ≤ 10000 ∨ d ≤ t / 1440 := by
    rcases hf with hf | hf
    · exact .inl (has_bd hv hf).2
    · rcases h.first with e | e
      · exact .inr (by omega)
      · omega
  refine ⟨⟨by omega, Int.le_refl _, by omega, by omega, .inr rfl, by omega, fun r' h4 h5 => ?_⟩, hd⟩
  by_cases hr : r' < d * 1440 + a
  · exact h.no r' h4 hr
  · by_cases hr2 : r' < d * 1440 + 1440
    · have e1 : r' / 1440 = d := by omega
      rcases hf with hf | hf
      · exact shiftB_no (.inl (by rw [e1]; exact hf))
      · exact shiftB_no (.inr (.inr (by omega)))
    · exact shiftB_no (.inr (.inl (by omega)))
theorem NextAt.bd {p : Shop} {t m d a : Int} (ht : 0 ≤ t) (h : NextAt p t m d a) : 0 ≤ d ∧ d ≤ t + 10002 := by
  have := h.d0
  have := h.most
  omega
end Go.Proofs.Ytcpnfcnobnjhdaa
