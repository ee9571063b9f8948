/- What an argument that can be read as data holds: openers by type. -/
import Derived.Test.YtnejacogflkmmaaRows
import Derived.Test.YtnejacogflkmmaaLib
import Derived.Deep.Slices
import Derived.OpenShut
import Derived.ProofKit
import Derived.ShutString
import Derived.ChangeOld
namespace Go.Proofs.Ytnejacogflkmmaa
open Go.RowKit Go.ChangeShapes Go.WideShapes Go.Deep

/-- Whatever reads as a datum of type t takes sz cells, of which R holds. -/
def Opens (P : Program) (t : TypeId) (sz : Nat) (R : World → List Value → Prop) : Prop :=
  P.cellsOf t = sz ∧ ∀ (H : Type) (enc : TypeId × Value → H) (w : World) (base : Nat) (spare : Nat → Bool) (held : Bool) (fuel : Nat) (cs : List Value) (x : DataW H × List MemPlace), DataW.trod enc P w base spare held fuel t cs = some x → cs.length = sz ∧ R w cs

theorem Opens.imp {P : Program} {t : TypeId} {sz : Nat} {R R' : World → List Value → Prop} (h : Opens P t sz R) (hi : ∀ w cs, R w cs → R' w cs) : Opens P t sz R' :=
  ⟨h.1, fun H enc w base spare held fuel cs x ht => ⟨(h.2 H enc w base spare held fuel cs x ht).1, hi _ _ (h.2 H enc w base spare held fuel cs x ht).2⟩⟩
def IsInt (k : IntKind) (_ : World) (cs : List Value) : Prop := ∃ n, cs = [.int k n] ∧ (Lit.int k n).wf = true
def IsBool (_ : World) (cs : List Value) : Prop := ∃ b, cs = [.bool b]
def IsStr (_ : World) (cs : List Value) : Prop := ∃ s : ByteArray, cs = [.string s] ∧ s.size ≤ maxLen
def IsSlice (sz : Nat) (R : World → List Value → Prop) (w : World) (cs : List Value) : Prop :=
  ∃ A len cap, cs = [.slice A len cap] ∧ len ≤ maxLen ∧ ∀ i, i < len → ∃ vs, RowAt w w.heap.size A sz i vs ∧ R w vs

theorem opens_int {P : Program} {t : TypeId} {k : IntKind} (ht : P.underlying t = some (.int k)) (hc : P.cellsOf t = 1) : Opens P t 1 (IsInt k) :=
  ⟨hc, fun H enc w base spare held fuel cs x h => by
    obtain ⟨n, rfl, _, hw⟩ := DataW.trod_int ht h
    exact ⟨rfl, n, rfl, hw⟩⟩
theorem opens_bool {P : Program} {t : TypeId} (ht : P.underlying t = some .bool) (hc : P.cellsOf t = 1) : Opens P t 1 IsBool :=
  ⟨hc, fun H enc w base spare held fuel cs x h => by
    obtain ⟨n, rfl, _⟩ := DataW.trod_bool ht h
    exact ⟨rfl, n, rfl⟩⟩
theorem opens_str {P : Program} {t : TypeId} (ht : P.underlying t = some .string) (hc : P.cellsOf t = 1) : Opens P t 1 IsStr :=
  ⟨hc, fun H enc w base spare held fuel cs x h => by
    obtain ⟨n, rfl, _, hs⟩ := DataW.trod_string ht h
    exact ⟨rfl, n, rfl, hs⟩⟩
theorem block_of_add (a : Addr) (n : Nat) : (a.add n).block = a.block := by unfold Addr.add; split <;> rfl
theorem cell_lt {w : World} {a : Addr} {v : Value} (h : w.cell? a = some v) : a.block < w.heap.size := by
  unfold World.cell? at h
  rcases Nat.lt_or_ge a.block w.heap.size with h1 | h1
  · exact h1
  · rw [Array.getElem?_eq_none h1] at h; cases h
theorem add_add' (a : Addr) (i j : Nat) : (a.add i).add j = a.add (i + j) := by
  unfold Addr.add
  by_cases hi : i = 0 <;> by_cases hj : j = 0 <;> simp [hi, hj, Nat.add_assoc]
theorem opens_slice {P : Program} {t e : TypeId} {sz : Nat} {R : World → List Value → Prop} (ht : P.underlying t = some (.slice e)) (hc : P.cellsOf t = 1) (hs : 0 < sz) (he : Opens P e sz R) : Opens P t 1 (IsSlice sz R) := by
  refine ⟨hc, fun H enc w base spare held fuel cs x h => ?_⟩
  rcases open_slice ht h with ⟨rfl, _⟩ | ⟨a, len, cap, m, n, D, Pl, rfl, hb, hl, hm, hmm, hx, hi⟩
  · exact ⟨rfl, none, 0, 0, rfl, Nat.zero_le _, fun i hi => by omega⟩
  · refine ⟨rfl, some a, len, cap, rfl, Nat.le_trans hl hm, fun i hil => ?_⟩
    have him : i < m := by rw [hmm]; split <;> omega
    obtain ⟨cs', hcs, ht'⟩ := hi i him
    rw [he.1] at hcs
    obtain ⟨hlen, hR⟩ := he.2 H enc w base spare held _ _ _ ht'
    obtain ⟨_, hcl, hat⟩ := World.cells?_some hcs
    have h0 := hat 0 hs
    have h00 : cs'[0]? = some (cs'[0]'(by omega)) := List.getElem?_eq_getElem _
    rw [h00, add_add'] at h0
    have hcell : ∀ j v, cs'[j]? = some v → w.cell? (a.add (i * sz + j)) = some v := fun j v hv => by
      have hj : j < cs'.length := (List.getElem?_eq_some_iff.1 hv).1
      have := hat j (by omega)
      rw [add_add'] at this
      rw [this, hv]
    refine ⟨cs', ?_, hR⟩
    obtain ⟨b, off, spot⟩ := a
    have hsp : spot = none := by
      by_cases hz : i * sz + 0 = 0
      · have := World.cell?_spot h0
        simpa [Addr.add, hz] using this
      · -- the first element's own cell
        have h1 := hi 0 (by omega)
        obtain ⟨cs0, hcs0, ht0⟩ := h1
        rw [he.1] at hcs0
        obtain ⟨_, hcl0, hat0⟩ := World.cells?_some hcs0
        have hz0 := hat0 0 hs
        have h00' : cs0[0]? = some (cs0[0]'(by omega)) := List.getElem?_eq_getElem _
        rw [h00', add_add'] at hz0
        have := World.cell?_spot hz0
        simpa [Addr.add] using this
    subst hsp
    refine ⟨b, off, rfl, ?_, fun j v hv => ?_⟩
    · have := cell_lt h0
      rwa [block_of_add] at this
    · have := hcell j v hv
      unfold Addr.add at this
      split at this
      · rename_i hz
        have e1 : i * sz = 0 := by omega
        have e2 : j = 0 := by omega
        simpa [e1, e2] using this
      · simpa [Nat.add_assoc] using this

/-- a choice for each of the first n numbers, as a list -/
theorem list_of {α : Type} (p : Nat → α → Prop) : ∀ n, (∀ i, i < n → ∃ x, p i x) → ∃ xs : List α, xs.length = n ∧ ∀ (i : Nat) x, xs[i]? = some x → p i x
  | 0, _ => ⟨[], rfl, fun i x h => by simp at h⟩
  | n + 1, h => by
    obtain ⟨xs, hl, hx⟩ := list_of p n fun i hi => h i (by omega)
    obtain ⟨y, hy⟩ := h n (by omega)
    refine ⟨xs ++ [y], by simp [hl], fun i x hi => ?_⟩
    rcases Nat.lt_or_ge i xs.length with h1 | h1
    · rw [List.getElem?_append_left h1] at hi; exact hx i x hi
    · rw [List.getElem?_append_right h1] at hi
      have : i - xs.length = 0 := by
        have := (List.getElem?_eq_some_iff.1 hi).1
        simp at this; omega
      rw [this] at hi
      simp at hi
      subst hi
      have : i = n := by omega
      rw [this]; exact hy
/-- a slice whose elements are told by 'enc', and for each of which Q holds -/
def IsSlc {α : Type} (enc : α → List Value) (sz : Nat) (Q : World → α → Prop) (w : World) (cs : List Value) : Prop :=
  ∃ A cap, ∃ xs : List α, cs = [.slice A xs.length cap] ∧ xs.length ≤ maxLen ∧ Slc enc sz w w.heap.size A xs ∧ ∀ (i : Nat) x, xs[i]? = some x → Q w x
theorem IsSlice.slc {α : Type} {enc : α → List Value} {sz : Nat} {R : World → List Value → Prop} {Q : World → α → Prop} (hR : ∀ w vs, R w vs → ∃ x, vs = enc x ∧ Q w x) {w : World} {cs : List Value} (h : IsSlice sz R w cs) : IsSlc enc sz Q w cs := by
  obtain ⟨A, len, cap, rfl, hl, hi⟩ := h
  obtain ⟨xs, hx, hp⟩ := list_of (fun i x => RowAt w w.heap.size A sz i (enc x) ∧ Q w x) len fun i hil => by
    obtain ⟨vs, hr, hR'⟩ := hi i hil
    obtain ⟨x, rfl, hq⟩ := hR w vs hR'
    exact ⟨x, hr, hq⟩
  subst hx
  exact ⟨A, cap, xs, rfl, hl, fun i x hxi => (hp i x hxi).1, fun i x hxi => (hp i x hxi).2⟩

/-- the j-th field of a struct -/
theorem opens_field {P : Program} {t : TypeId} {fs : Array Field} (ht : P.underlying t = some (.struct fs)) {H : Type} {enc : TypeId × Value → H} {w : World} {base : Nat} {spare : Nat → Bool} {held : Bool} {fuel : Nat} {cs : List Value} {x : DataW H × List MemPlace}
    (h : DataW.trod enc P w base spare held fuel t cs = some x) {j : Nat} {f : Field} (hf : fs[j]? = some f) {sz : Nat} {R : World → List Value → Prop} (ho : Opens P f.type sz R) : ((cs.drop f.offset).take sz).length = sz ∧ R w ((cs.drop f.offset).take sz) := by
  obtain ⟨xs, n, _, _, hlen, hxs, hg⟩ := DataW.trod_struct ht h
  have h1 := hg j f hf
  rw [ho.1] at h1
  have hj : j < xs.length := by rw [hxs]; exact (Array.getElem?_eq_some_iff.1 hf).1
  rw [List.getElem?_eq_getElem hj] at h1
  exact ho.2 H enc w base spare held _ _ _ h1
/-- the j-th element of an array -/
theorem opens_elem {P : Program} {t e : TypeId} {m : Nat} (ht : P.underlying t = some (.array m e)) {H : Type} {enc : TypeId × Value → H} {w : World} {base : Nat} {spare : Nat → Bool} {held : Bool} {fuel : Nat} {cs : List Value} {x : DataW H × List MemPlace}
    (h : DataW.trod enc P w base spare held fuel t cs = some x) {j : Nat} (hj : j < m) {sz : Nat} {R : World → List Value → Prop} (ho : Opens P e sz R) : ((cs.drop (j * sz)).take sz).length = sz ∧ R w ((cs.drop (j * sz)).take sz) := by
  obtain ⟨xs, n, _, _, hlen, hxs, hg⟩ := DataW.trod_array ht h
  have h1 := hg j hj
  rw [ho.1] at h1
  rw [List.getElem?_eq_getElem (by omega)] at h1
  exact ho.2 H enc w base spare held _ _ _ h1
theorem opens_len {P : Program} {t : TypeId} {fs : Array Field} (ht : P.underlying t = some (.struct fs)) {H : Type} {enc : TypeId × Value → H} {w : World} {base : Nat} {spare : Nat → Bool} {held : Bool} {fuel : Nat} {cs : List Value} {x : DataW H × List MemPlace}
    (h : DataW.trod enc P w base spare held fuel t cs = some x) : cs.length = P.cellsOf t := by
  obtain ⟨xs, n, _, _, hlen, _⟩ := DataW.trod_struct ht h
  exact hlen
/-- an argument: its value's cells -/
theorem opens_arg {P : Program} {t : TypeId} {sz : Nat} {R : World → List Value → Prop} (ho : Opens P t sz R) {H : Type} {enc : TypeId × Value → H} {w : World} {base : Nat} {spare : Nat → Bool} {held : Bool} {v : Value} {d : DataW H} {p : List MemPlace}
    (h : DataW.Trod enc P w base spare held t v d p) : v.cells.toList.length = sz ∧ R w v.cells.toList := by
  obtain ⟨fuel, hf⟩ := h
  exact ho.2 H enc w base spare held fuel _ _ hf
section
variable {P : Program} {r : Reach} {b0 : Nat} {t : TypeId} {sz : Nat} {R : World → List Value → Prop} {H : Type} {enc : TypeId × Value → H} {w : World} {base : Nat} {spare : Nat → Bool} {held : Bool} {v : Value} {d : DataW H} {p : List MemPlace}
theorem arg_struct {fs : Array Field} (ht : P.underlying t = some (.struct fs)) (ho : Opens P t sz R) (hv : Value.okWide P w r b0 t v) (h : DataW.Trod enc P w base spare held t v d p) : ∃ l, v = .agg l.toArray ∧ R w l := by
  obtain ⟨cs, rfl, _⟩ := okWide_struct ht hv
  exact ⟨cs.toList, by simp, (opens_arg ho h).2⟩
theorem arg_array {m e : Nat} (ht : P.underlying t = some (.array m e)) (ho : Opens P t sz R) (hv : Value.okWide P w r b0 t v) (h : DataW.Trod enc P w base spare held t v d p) : ∃ l, v = .agg l.toArray ∧ R w l := by
  have hv' : ∃ cs, v = .agg cs := by
    simp only [Value.okWide, ht] at hv
    obtain ⟨cs, h1, _⟩ := hv
    exact ⟨cs, h1⟩
  obtain ⟨cs, rfl⟩ := hv'
  exact ⟨cs.toList, by simp, (opens_arg ho h).2⟩
theorem arg_slc {α : Type} {enc' : α → List Value} {Q : World → α → Prop} {e : TypeId} (ht : P.underlying t = some (.slice e)) (ho : Opens P t 1 (IsSlc enc' sz Q)) (hv : Value.okWide P w r b0 t v) (h : DataW.Trod enc P w base spare held t v d p) :
    ∃ A cap, ∃ xs : List α, v = .slice A xs.length cap ∧ xs.length ≤ maxLen ∧ Slc enc' sz w w.heap.size A xs ∧ ∀ (i : Nat) x, xs[i]? = some x → Q w x := by
  obtain ⟨a, len, cap, rfl⟩ := okWide_slice ht hv
  obtain ⟨A, c, xs, h1, h2⟩ := (opens_arg ho h).2
  refine ⟨A, c, xs, ?_, h2⟩
  simpa [Value.cells] using h1
end
theorem take1_at {cs : List Value} {j : Nat} {v : Value} (h : (cs.drop j).take 1 = [v]) : cs[j]? = some v := by
  have := congrArg (·[0]?) h
  simpa using this
theorem own_ : ownKnob Try.prog.godebug = none := by kernel_rfl
theorem laidOut_ : laidOutB Try.prog = true := by kernel_rfl
end Go.Proofs.Ytnejacogflkmmaa
