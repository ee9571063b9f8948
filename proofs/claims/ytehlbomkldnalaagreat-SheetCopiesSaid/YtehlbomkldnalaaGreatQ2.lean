/- Parts of the proofs of this seat: Open, OpenSheet, OpenCall, OpenScr. Each part says what it proves; no condition beyond those stated there. -/
import Derived.Test.YtehlbomkldnalaaGreatRows
import Derived.Deep.Slices
import Derived.OpenShut
import Derived.ProofKit
import Derived.ShutString
import Derived.ChangeOld
import Derived.Test.YtehlbomkldnalaaGreatQ1

/- What an argument that can be read as data holds: openers by type. -/
namespace Go.Proofs.YtehlbomkldnalaaGreat
open Go.RowKit Go.ChangeShapes Go.WideShapes Go.Deep

/-- Whatever reads as a datum of type t takes sz cells, of which R holds. -/
def Opens (P : Program) (t : TypeId) (sz : Nat) (R : World → List Value → Prop) : Prop :=
 P.cellsOf t = sz ∧ ∀ (H : Type) (enc : TypeId × Value → H) (w : World) (base : Nat) (spare : Nat → Bool) (held : Bool) (fuel : Nat) (cs : List Value) (x : DataW H × List MemPlace), DataW.trod enc P w base spare held fuel t cs = some x → cs.length = sz ∧ R w cs

theorem Opens.imp {P : Program} {t : TypeId} {sz : Nat} {R R' : World → List Value → Prop} (h : Opens P t sz R) (hi : ∀ w cs, R w cs → R' w cs) : Opens P t sz R' :=
 ⟨h.1, fun H enc w base spare held fuel cs x ht => ⟨(h.2 H enc w base spare held fuel cs x ht).1, hi _ _ (h.2 H enc w base spare held fuel cs x ht).2⟩⟩
def IsInt (k : IntKind) (_ : World) (cs : List Value) : Prop := ∃ n, cs = [.int k n] ∧ (Lit.int k n).wf = true
def IsSlice (sz : Nat) (R : World → List Value → Prop) (w : World) (cs : List Value) : Prop :=
 ∃ A len cap, cs = [.slice A len cap] ∧ len ≤ maxLen ∧ ∀ i, i < len → ∃ vs, RowAt w w.heap.size A sz i vs ∧ R w vs

theorem opens_int {P : Program} {t : TypeId} {k : IntKind} (ht : P.underlying t = some (.int k)) (hc : P.cellsOf t = 1) : Opens P t 1 (IsInt k) :=
 ⟨hc, fun H enc w base spare held fuel cs x h => by
  obtain ⟨n, rfl, _, hw⟩ := DataW.trod_int ht h
  exact ⟨rfl, n, rfl, hw⟩⟩
theorem block_of_add (a : Addr) (n : Nat) : (a.add n).block = a.block := by unfold Addr.add; split <;> rfl
theorem cell_lt {w : World} {a : Addr} {v : Value} (h : w.cell? a = some v) : a.block < w.heap.size := by
 unfold World.cell? at h
 rcases Nat.lt_or_ge a.block w.heap.size with h1 | h1
 ·exact h1
 ·rw [Array.getElem?_eq_none h1] at h; cases h
theorem add_add' (a : Addr) (i j : Nat) : (a.add i).add j = a.add (i + j) := by
 unfold Addr.add
 by_cases hi : i = 0 <;> by_cases hj : j = 0 <;> simp [hi, hj, Nat.add_assoc]
theorem opens_slice {P : Program} {t e : TypeId} {sz : Nat} {R : World → List Value → Prop} (ht : P.underlying t = some (.slice e)) (hc : P.cellsOf t = 1) (hs : 0 < sz) (he : Opens P e sz R) : Opens P t 1 (IsSlice sz R) := by
 refine ⟨hc, fun H enc w base spare held fuel cs x h => ?_⟩
 rcases open_slice ht h with ⟨rfl, _⟩ | ⟨a, len, cap, m, n, D, Pl, rfl, hb, hl, hm, hmm, hx, hi⟩
 ·exact ⟨rfl, none, 0, 0, rfl, Nat.zero_le _, fun i hi => by omega⟩
 ·refine ⟨rfl, some a, len, cap, rfl, Nat.le_trans hl hm, fun i hil => ?_⟩
  have him : i < m := by rw [hmm]; split <;> omega
  obtain ⟨cs', hcs, ht'⟩ := hi i him
  rw [he.1] at hcs
  obtain ⟨hlen, hR⟩ := he.2 H enc w base spare held _ _ _ ht'
  obtain ⟨_, hcl, hat⟩ := World.cells?_some hcs
  have h0 := hat 0 hs
  have h00 : cs'[0]? = some (cs'[0]'(by omega)) := List.getElem?_eq_getElem _
  rw [h00, add_add'] at h0
  have hcell : ∀ j v, cs'[j]? = some v → w.cell? (a.add (i * sz + j)) = some v := fun j v hv => by
   have hj : j < cs'.length := (List.getElem?_eq_some_iff.1 hv).1
   have := hat j (by omega)
   rw [add_add'] at this
   rw [this, hv]
  refine ⟨cs', ?_, hR⟩
  obtain ⟨b, off, spot⟩ := a
  have hsp : spot = none := by
   by_cases hz : i * sz + 0 = 0
   ·have := World.cell?_spot h0
    simpa [Addr.add, hz] using this
   · -- the first element's own cell
    have h1 := hi 0 (by omega)
    obtain ⟨cs0, hcs0, ht0⟩ := h1
    rw [he.1] at hcs0
    obtain ⟨_, hcl0, hat0⟩ := World.cells?_some hcs0
    have hz0 := hat0 0 hs
    have h00' : cs0[0]? = some (cs0[0]'(by omega)) := List.getElem?_eq_getElem _
    rw [h00', add_add'] at hz0
    have := World.cell?_spot hz0
    simpa [Addr.add] using this
  subst hsp
  refine ⟨b, off, rfl, ?_, fun j v hv => ?_⟩
  ·have := cell_lt h0
   rwa [block_of_add] at this
  ·have := hcell j v hv
   unfold Addr.add at this
   split at this
   ·rename_i hz
    have e1 : i * sz = 0 := by omega
    have e2 : j = 0 := by omega
    simpa [e1, e2] using this
   ·simpa [Nat.add_assoc] using this

/-- a choice for each of the first n numbers, as a list -/
theorem list_of {α : Type} (p : Nat → α → Prop) : ∀ n, (∀ i, i < n → ∃ x, p i x) → ∃ xs : List α, xs.length = n ∧ ∀ (i : Nat) x, xs[i]? = some x → p i x
 | 0, _ => ⟨[], rfl, fun i x h => by simp at h⟩
 | n + 1, h => by
  obtain ⟨xs, hl, hx⟩ := list_of p n fun i hi => h i (by omega)
  obtain ⟨y, hy⟩ := h n (by omega)
  refine ⟨xs ++ [y], by simp [hl], fun i x hi => ?_⟩
  rcases Nat.lt_or_ge i xs.length with h1 | h1
  ·rw [List.getElem?_append_left h1] at hi; exact hx i x hi
  ·rw [List.getElem?_append_right h1] at hi
   have : i - xs.length = 0 := by
    have := (List.getElem?_eq_some_iff.1 hi).1
    simp at this; omega
   rw [this] at hi
   simp at hi
   subst hi
   have : i = n := by omega
   rw [this]; exact hy
/-- a slice whose elements are told by 'enc', and for each of which Q holds -/
def IsSlc {α : Type} (enc : α → List Value) (sz : Nat) (Q : World → α → Prop) (w : World) (cs : List Value) : Prop :=
 ∃ A cap, ∃ xs : List α, cs = [.slice A xs.length cap] ∧ xs.length ≤ maxLen ∧ Slc enc sz w w.heap.size A xs ∧ ∀ (i : Nat) x, xs[i]? = some x → Q w x
theorem IsSlice.slc {α : Type} {enc : α → List Value} {sz : Nat} {R : World → List Value → Prop} {Q : World → α → Prop} (hR : ∀ w vs, R w vs → ∃ x, vs = enc x ∧ Q w x) {w : World} {cs : List Value} (h : IsSlice sz R w cs) : IsSlc enc sz Q w cs := by
 obtain ⟨A, len, cap, rfl, hl, hi⟩ := h
 obtain ⟨xs, hx, hp⟩ := list_of (fun i x => RowAt w w.heap.size A sz i (enc x) ∧ Q w x) len fun i hil => by
  obtain ⟨vs, hr, hR'⟩ := hi i hil
  obtain ⟨x, rfl, hq⟩ := hR w vs hR'
  exact ⟨x, hr, hq⟩
 subst hx
 exact ⟨A, cap, xs, rfl, hl, fun i x hxi => (hp i x hxi).1, fun i x hxi => (hp i x hxi).2⟩

/-- the j-th field of a struct -/
theorem opens_field {P : Program} {t : TypeId} {fs : Array Field} (ht : P.underlying t = some (.struct fs)) {H : Type} {enc : TypeId × Value → H} {w : World} {base : Nat} {spare : Nat → Bool} {held : Bool} {fuel : Nat} {cs : List Value} {x : DataW H × List MemPlace}
  (h : DataW.trod enc P w base spare held fuel t cs = some x) {j : Nat} {f : Field} (hf : fs[j]? = some f) {sz : Nat} {R : World → List Value → Prop} (ho : Opens P f.type sz R) : ((cs.drop f.offset).take sz).length = sz ∧ R w ((cs.drop f.offset).take sz) := by
 obtain ⟨xs, n, _, _, hlen, hxs, hg⟩ := DataW.trod_struct ht h
 have h1 := hg j f hf
 rw [ho.1] at h1
 have hj : j < xs.length := by rw [hxs]; exact (Array.getElem?_eq_some_iff.1 hf).1
 rw [List.getElem?_eq_getElem hj] at h1
 exact ho.2 H enc w base spare held _ _ _ h1
/-- the j-th element of an array -/
theorem opens_elem {P : Program} {t e : TypeId} {m : Nat} (ht : P.underlying t = some (.array m e)) {H : Type} {enc : TypeId × Value → H} {w : World} {base : Nat} {spare : Nat → Bool} {held : Bool} {fuel : Nat} {cs : List Value} {x : DataW H × List MemPlace}
  (h : DataW.trod enc P w base spare held fuel t cs = some x) {j : Nat} (hj : j < m) {sz : Nat} {R : World → List Value → Prop} (ho : Opens P e sz R) : ((cs.drop (j * sz)).take sz).length = sz ∧ R w ((cs.drop (j * sz)).take sz) := by
 obtain ⟨xs, n, _, _, hlen, hxs, hg⟩ := DataW.trod_array ht h
 have h1 := hg j hj
 rw [ho.1] at h1
 rw [List.getElem?_eq_getElem (by omega)] at h1
 exact ho.2 H enc w base spare held _ _ _ h1
theorem opens_len {P : Program} {t : TypeId} {fs : Array Field} (ht : P.underlying t = some (.struct fs)) {H : Type} {enc : TypeId × Value → H} {w : World} {base : Nat} {spare : Nat → Bool} {held : Bool} {fuel : Nat} {cs : List Value} {x : DataW H × List MemPlace}
  (h : DataW.trod enc P w base spare held fuel t cs = some x) : cs.length = P.cellsOf t := by
 obtain ⟨xs, n, _, _, hlen, _⟩ := DataW.trod_struct ht h
 exact hlen
/-- an argument: its value's cells -/
theorem opens_arg {P : Program} {t : TypeId} {sz : Nat} {R : World → List Value → Prop} (ho : Opens P t sz R) {H : Type} {enc : TypeId × Value → H} {w : World} {base : Nat} {spare : Nat → Bool} {held : Bool} {v : Value} {d : DataW H} {p : List MemPlace}
  (h : DataW.Trod enc P w base spare held t v d p) : v.cells.toList.length = sz ∧ R w v.cells.toList := by
 obtain ⟨fuel, hf⟩ := h
 exact ho.2 H enc w base spare held fuel _ _ hf
section
variable {P : Program} {r : Reach} {b0 : Nat} {t : TypeId} {sz : Nat} {R : World → List Value → Prop} {H : Type} {enc : TypeId × Value → H} {w : World} {base : Nat} {spare : Nat → Bool} {held : Bool} {v : Value} {d : DataW H} {p : List MemPlace}
theorem arg_struct {fs : Array Field} (ht : P.underlying t = some (.struct fs)) (ho : Opens P t sz R) (hv : Value.okWide P w r b0 t v) (h : DataW.Trod enc P w base spare held t v d p) : ∃ l, v = .agg l.toArray ∧ R w l := by
 obtain ⟨cs, rfl, _⟩ := okWide_struct ht hv
 exact ⟨cs.toList, by simp, (opens_arg ho h).2⟩
theorem arg_slc {α : Type} {enc' : α → List Value} {Q : World → α → Prop} {e : TypeId} (ht : P.underlying t = some (.slice e)) (ho : Opens P t 1 (IsSlc enc' sz Q)) (hv : Value.okWide P w r b0 t v) (h : DataW.Trod enc P w base spare held t v d p) :
  ∃ A cap, ∃ xs : List α, v = .slice A xs.length cap ∧ xs.length ≤ maxLen ∧ Slc enc' sz w w.heap.size A xs ∧ ∀ (i : Nat) x, xs[i]? = some x → Q w x := by
 obtain ⟨a, len, cap, rfl⟩ := okWide_slice ht hv
 obtain ⟨A, c, xs, h1, h2⟩ := (opens_arg ho h).2
 refine ⟨A, c, xs, ?_, h2⟩
 simpa [Value.cells] using h1
end
theorem take1_at {cs : List Value} {j : Nat} {v : Value} (h : (cs.drop j).take 1 = [v]) : cs[j]? = some v := by
 have := congrArg (·[0]?) h
 simpa using this
theorem own_ : ownKnob Tryz.prog.godebug = none := by kernel_rfl
theorem laidOut_ : laidOutB Tryz.prog = true := by kernel_rfl
end Go.Proofs.YtehlbomkldnalaaGreat

/- Openers of the types of sheet's statements. -/
namespace Go.Proofs.YtehlbomkldnalaaGreat
open Go.RowKit Go.ChangeShapes Go.WideShapes

def I64 (n : Int) : Prop := -9223372036854775808 ≤ n ∧ n ≤ 9223372036854775807
theorem o_int : Opens Tryz.prog 3 1 (fun _ cs => ∃ n, cs = [.int .i64 n] ∧ I64 n) := (opens_int Tryz.underlying3 (by kernel_rfl)).imp fun _ _ ⟨n, h, hw⟩ => ⟨n, h, bounds_i64 hw⟩
def PtOk (_ : World) (p : Pt) : Prop := I64 p.a ∧ I64 p.b
theorem o_span : Opens Tryz.prog 57 2 (fun w cs => ∃ p : Pt, cs = Pt.enc p ∧ PtOk w p) := by
 refine ⟨by kernel_rfl, fun H enc w base spare held fuel cs x h => ?_⟩
 have hl := opens_len Tryz.underlying57 h
 have hl' : cs.length = 2 := hl.trans (by kernel_rfl)
 obtain ⟨_, a, h0, b0⟩ := opens_field Tryz.underlying57 h (j := 0) rfl o_int
 obtain ⟨_, b, h1, b1⟩ := opens_field Tryz.underlying57 h (j := 1) rfl o_int
 have e0 := take1_at h0
 have e1 := take1_at h1
 refine ⟨hl', ⟨a, b⟩, ?_, b0, b1⟩
 match cs, hl' with
 | [c0, c1], _ => simp at e0 e1; subst e0 e1; rfl
theorem o_spans : Opens Tryz.prog 41 1 (IsSlc Pt.enc 2 PtOk) :=
 (opens_slice Tryz.underlying41 (by kernel_rfl) (by omega) o_span).imp fun w cs h => h.slc fun _ _ h => h
/-- a roll's cells -/
def IsRoll (w : World) (cs : List Value) : Prop :=
 ∃ id grade colour lot made width len A c, ∃ fs : List Pt, cs = [.int .i64 id, .int .i64 grade, .int .i64 colour, .int .i64 lot, .int .i64 made, .int .i64 width, .int .i64 len, .slice A fs.length c] ∧
  (I64 id ∧ I64 grade ∧ I64 colour ∧ I64 lot ∧ I64 made ∧ I64 width ∧ I64 len) ∧ fs.length ≤ maxLen ∧ Slc Pt.enc 2 w w.heap.size A fs ∧ ∀ (i : Nat) x, fs[i]? = some x → PtOk w x
theorem o_roll : Opens Tryz.prog 43 8 IsRoll := by
 refine ⟨by kernel_rfl, fun H enc w base spare held fuel cs x h => ?_⟩
 have hl := opens_len Tryz.underlying43 h
 have hl' : cs.length = 8 := hl.trans (by kernel_rfl)
 obtain ⟨_, n0, h0, b0⟩ := opens_field Tryz.underlying43 h (j := 0) rfl o_int
 obtain ⟨_, n1, h1, b1⟩ := opens_field Tryz.underlying43 h (j := 1) rfl o_int
 obtain ⟨_, n2, h2, b2⟩ := opens_field Tryz.underlying43 h (j := 2) rfl o_int
 obtain ⟨_, n3, h3, b3⟩ := opens_field Tryz.underlying43 h (j := 3) rfl o_int
 obtain ⟨_, n4, h4, b4⟩ := opens_field Tryz.underlying43 h (j := 4) rfl o_int
 obtain ⟨_, n5, h5, b5⟩ := opens_field Tryz.underlying43 h (j := 5) rfl o_int
 obtain ⟨_, n6, h6, b6⟩ := opens_field Tryz.underlying43 h (j := 6) rfl o_int
 obtain ⟨_, A, c, fs, h7, b7⟩ := opens_field Tryz.underlying43 h (j := 7) rfl o_spans
 have e0 := take1_at h0
 have e1 := take1_at h1
 have e2 := take1_at h2
 have e3 := take1_at h3
 have e4 := take1_at h4
 have e5 := take1_at h5
 have e6 := take1_at h6
 have e7 := take1_at h7
 refine ⟨hl', n0, n1, n2, n3, n4, n5, n6, A, c, fs, ?_, ⟨b0, b1, b2, b3, b4, b5, b6⟩, b7⟩
 match cs, hl' with
 | [c0, c1, c2, c3, c4, c5, c6, c7], _ => simp at e0 e1 e2 e3 e4 e5 e6 e7; subst e0 e1 e2 e3 e4 e5 e6 e7; rfl
/-- rules' cells -/
def IsShelf (_ : World) (cs : List Value) : Prop :=
 ∃ mw ml l0 l1 l2, cs = [.int .i64 mw, .int .i64 ml, .int .i64 l0, .int .i64 l1, .int .i64 l2] ∧ I64 mw ∧ I64 ml ∧ I64 l0 ∧ I64 l1 ∧ I64 l2
theorem o_arr3 : Opens Tryz.prog 22 3 (fun _ cs => ∃ a b c, cs = [.int .i64 a, .int .i64 b, .int .i64 c] ∧ I64 a ∧ I64 b ∧ I64 c) := by
 refine ⟨by kernel_rfl, fun H enc w base spare held fuel cs x h => ?_⟩
 have hl' : cs.length = 3 := by
  obtain ⟨xs, n, _, _, hlen, _⟩ := DataW.trod_array Tryz.underlying22 h
  exact hlen.trans (by kernel_rfl)
 obtain ⟨_, n0, h0, b0⟩ := opens_elem Tryz.underlying22 h (j := 0) (by omega) o_int
 obtain ⟨_, n1, h1, b1⟩ := opens_elem Tryz.underlying22 h (j := 1) (by omega) o_int
 obtain ⟨_, n2, h2, b2⟩ := opens_elem Tryz.underlying22 h (j := 2) (by omega) o_int
 have e0 := take1_at h0
 have e1 := take1_at h1
 have e2 := take1_at h2
 refine ⟨hl', n0, n1, n2, ?_, b0, b1, b2⟩
 match cs, hl' with
 | [c0, c1, c2], _ => simp at e0 e1 e2; subst e0 e1 e2; rfl
theorem o_shelf : Opens Tryz.prog 24 5 IsShelf := by
 refine ⟨by kernel_rfl, fun H enc w base spare held fuel cs x h => ?_⟩
 have hl := opens_len Tryz.underlying24 h
 have hl' : cs.length = 5 := hl.trans (by kernel_rfl)
 obtain ⟨_, n0, h0, b0⟩ := opens_field Tryz.underlying24 h (j := 0) rfl o_int
 obtain ⟨_, n1, h1, b1⟩ := opens_field Tryz.underlying24 h (j := 1) rfl o_int
 obtain ⟨_, a, b, c, h2, b2⟩ := opens_field Tryz.underlying24 h (j := 2) rfl o_arr3
 have e0 := take1_at h0
 have e1 := take1_at h1
 refine ⟨hl', n0, n1, a, b, c, ?_, b0, b1, b2⟩
 match cs, hl' with
 | [c0, c1, c2, c3, c4], _ => simp at e0 e1 h2; obtain ⟨e2, e3, e4⟩ := h2; subst e0 e1 e2 e3 e4; rfl
end Go.Proofs.YtehlbomkldnalaaGreat

/- Openers: needs, calls of a store, a list of them. -/
namespace Go.Proofs.YtehlbomkldnalaaGreat
open Go.RowKit Go.ChangeShapes Go.WideShapes
theorem split_at {α : Type} (cs : List α) (i n : Nat) : cs.drop i = (cs.drop i).take n ++ cs.drop (i + n) := by
 rw [← List.drop_drop, List.take_append_drop]
theorem o_need : Opens Tryz.prog 45 5 (fun _ cs => ∃ g q x l k, cs = [.int .i64 g, .int .i64 q, .int .i64 x, .int .i64 l, .int .i64 k] ∧ I64 g ∧ I64 q ∧ I64 x ∧ I64 l ∧ I64 k) := by
 refine ⟨by kernel_rfl, fun H enc w base spare held fuel cs x h => ?_⟩
 have hl := opens_len Tryz.underlying45 h
 have hl' : cs.length = 5 := hl.trans (by kernel_rfl)
 obtain ⟨_, n0, h0, b0⟩ := opens_field Tryz.underlying45 h (j := 0) rfl o_int
 obtain ⟨_, n1, h1, b1⟩ := opens_field Tryz.underlying45 h (j := 1) rfl o_int
 obtain ⟨_, n2, h2, b2⟩ := opens_field Tryz.underlying45 h (j := 2) rfl o_int
 obtain ⟨_, n3, h3, b3⟩ := opens_field Tryz.underlying45 h (j := 3) rfl o_int
 obtain ⟨_, n4, h4, b4⟩ := opens_field Tryz.underlying45 h (j := 4) rfl o_int
 have e0 := take1_at h0
 have e1 := take1_at h1
 have e2 := take1_at h2
 have e3 := take1_at h3
 have e4 := take1_at h4
 refine ⟨hl', n0, n1, n2, n3, n4, ?_, b0, b1, b2, b3, b4⟩
 match cs, hl' with
 | [c0, c1, c2, c3, c4], _ => simp at e0 e1 e2 e3 e4; subst e0 e1 e2 e3 e4; rfl
/-- a call of a store as it lies in memory -/
structure CallV where
 kind : Int
 id : Int
 gr : Int
 co : Int
 lo : Int
 ma : Int
 wi : Int
 le : Int
 A : Option Addr
 n : Nat
 c : Nat
 ng : Int
 nq : Int
 nw : Int
 nl : Int
 nk : Int
 day : Int
 cid : Int
 what : Int
instance : CoeOut CallV (Array Value) := ⟨fun x => #[.int .i64 x.kind, .int .i64 x.id, .int .i64 x.gr, .int .i64 x.co, .int .i64 x.lo, .int .i64 x.ma, .int .i64 x.wi, .int .i64 x.le, .slice x.A x.n x.c, .int .i64 x.ng, .int .i64 x.nq, .int .i64 x.nw, .int .i64 x.nl, .int .i64 x.nk, .int .i64 x.day, .int .i64 x.cid, .int .i64 x.what]⟩
def CallV.enc (x : CallV) : List Value := [.int .i64 x.kind, .int .i64 x.id, .int .i64 x.gr, .int .i64 x.co, .int .i64 x.lo, .int .i64 x.ma, .int .i64 x.wi, .int .i64 x.le, .slice x.A x.n x.c, .int .i64 x.ng, .int .i64 x.nq, .int .i64 x.nw, .int .i64 x.nl, .int .i64 x.nk, .int .i64 x.day, .int .i64 x.cid, .int .i64 x.what]
/-- its numbers are within their kind, and its faults can be read -/
structure CallIn (w : World) (x : CallV) : Prop where
 kind : I64 x.kind
 id : I64 x.id
 gr : I64 x.gr
 co : I64 x.co
 lo : I64 x.lo
 ma : I64 x.ma
 wi : I64 x.wi
 le : I64 x.le
 ng : I64 x.ng
 nq : I64 x.nq
 nw : I64 x.nw
 nl : I64 x.nl
 nk : I64 x.nk
 day : I64 x.day
 cid : I64 x.cid
 what : I64 x.what
 fs : ∃ fs : List Pt, fs.length = x.n ∧ fs.length ≤ maxLen ∧ Slc Pt.enc 2 w w.heap.size x.A fs ∧ ∀ (i : Nat) p, fs[i]? = some p → PtOk w p
set_option maxRecDepth 100000 in
theorem o_call : Opens Tryz.prog 47 17 (fun w cs => ∃ x : CallV, cs = x.enc ∧ CallIn w x) := by
 refine ⟨by kernel_rfl, fun H enc w base spare held fuel cs x h => ?_⟩
 have hl := opens_len Tryz.underlying47 h
 have hl' : cs.length = 17 := hl.trans (by kernel_rfl)
 obtain ⟨_, n0, h0, b0⟩ := opens_field Tryz.underlying47 h (j := 0) rfl o_int
 obtain ⟨_, id, gr, co, lo, ma, wi, le, A, c, fs, h1, ⟨b1, b2, b3, b4, b5, b6, b7⟩, hf⟩ := opens_field Tryz.underlying47 h (j := 1) rfl o_roll
 obtain ⟨_, g, q, x, l, k, h2, c1, c2, c3, c4, c5⟩ := opens_field Tryz.underlying47 h (j := 2) rfl o_need
 obtain ⟨_, n3, h3, d3⟩ := opens_field Tryz.underlying47 h (j := 3) rfl o_int
 obtain ⟨_, n4, h4, d4⟩ := opens_field Tryz.underlying47 h (j := 4) rfl o_int
 obtain ⟨_, n5, h5, d5⟩ := opens_field Tryz.underlying47 h (j := 5) rfl o_int
 have h0' : (cs.drop 0).take 1 = _ := h0
 have h1' : (cs.drop 1).take 8 = _ := h1
 have h2' : (cs.drop 9).take 5 = _ := h2
 have h3' : (cs.drop 14).take 1 = _ := h3
 have h4' : (cs.drop 15).take 1 = _ := h4
 have h5' : (cs.drop 16).take 1 = _ := h5
 have e : cs = (cs.drop 0).take 1 ++ ((cs.drop 1).take 8 ++ ((cs.drop 9).take 5 ++ ((cs.drop 14).take 1 ++ ((cs.drop 15).take 1 ++ (cs.drop 16).take 1)))) := by
  have a1 : (cs.drop 16).take 1 = cs.drop 16 := List.take_of_length_le (by rw [List.length_drop]; omega)
  rw [a1, ← split_at cs 15 1, ← split_at cs 14 1, ← split_at cs 9 5, ← split_at cs 1 8, ← split_at cs 0 1, List.drop_zero]
 rw [h0', h1', h2', h3', h4', h5'] at e
 exact ⟨hl', ⟨n0, id, gr, co, lo, ma, wi, le, A, fs.length, c, g, q, x, l, k, n3, n4, n5⟩, e, ⟨b0, b1, b2, b3, b4, b5, b6, b7, c1, c2, c3, c4, c5, d3, d4, d5, ⟨fs, rfl, hf⟩⟩⟩
theorem o_calls : Opens Tryz.prog 25 1 (IsSlc CallV.enc 17 CallIn) :=
 (opens_slice Tryz.underlying25 (by kernel_rfl) (by omega) o_call).imp fun w cs h => h.slc fun _ _ h => h
end Go.Proofs.YtehlbomkldnalaaGreat

/- Opener: the scripts of SheetCopies. -/
namespace Go.Proofs.YtehlbomkldnalaaGreat
open Go.RowKit Go.ChangeShapes Go.WideShapes
set_option maxRecDepth 100000 in
theorem o_scr : Opens Tryz.prog 51 8 (fun w cs => ∃ (mw ml a b c : Int) (A1 A2 A3 : Option Addr) (c1 c2 c3 : Nat) (x1 x2 x3 : List CallV), cs = [.int .i64 mw, .int .i64 ml, .int .i64 a, .int .i64 b, .int .i64 c, .slice A1 x1.length c1, .slice A2 x2.length c2, .slice A3 x3.length c3] ∧
  (x1.length ≤ maxLen ∧ Slc CallV.enc 17 w w.heap.size A1 x1 ∧ ∀ (i : Nat) x, x1[i]? = some x → CallIn w x) ∧ (x2.length ≤ maxLen ∧ Slc CallV.enc 17 w w.heap.size A2 x2 ∧ ∀ (i : Nat) x, x2[i]? = some x → CallIn w x) ∧ (x3.length ≤ maxLen ∧ Slc CallV.enc 17 w w.heap.size A3 x3 ∧ ∀ (i : Nat) x, x3[i]? = some x → CallIn w x)) := by
 refine ⟨by kernel_rfl, fun H enc w base spare held fuel cs x h => ?_⟩
 have hl := opens_len Tryz.underlying51 h
 have hl' : cs.length = 8 := hl.trans (by kernel_rfl)
 obtain ⟨_, mw, ml, a, b, c, h0, _⟩ := opens_field Tryz.underlying51 h (j := 0) rfl o_shelf
 obtain ⟨_, A1, c1, x1, h1, f1⟩ := opens_field Tryz.underlying51 h (j := 1) rfl o_calls
 obtain ⟨_, A2, c2, x2, h2, f2⟩ := opens_field Tryz.underlying51 h (j := 2) rfl o_calls
 obtain ⟨_, A3, c3, x3, h3, f3⟩ := opens_field Tryz.underlying51 h (j := 3) rfl o_calls
 have h0' : (cs.drop 0).take 5 = _ := h0
 have h1' : (cs.drop 5).take 1 = _ := h1
 have h2' : (cs.drop 6).take 1 = _ := h2
 have h3' : (cs.drop 7).take 1 = _ := h3
 have e : cs = (cs.drop 0).take 5 ++ ((cs.drop 5).take 1 ++ ((cs.drop 6).take 1 ++ (cs.drop 7).take 1)) := by
  have a1 : (cs.drop 7).take 1 = cs.drop 7 := List.take_of_length_le (by rw [List.length_drop]; omega)
  rw [a1, ← split_at cs 6 1, ← split_at cs 5 1, ← split_at cs 0 5, List.drop_zero]
 rw [h0', h1', h2', h3'] at e
 exact ⟨hl', mw, ml, a, b, c, A1, A2, A3, c1, c2, c3, x1, x2, x3, e, f1, f2, f3⟩
end Go.Proofs.YtehlbomkldnalaaGreat
