/- Parts of the proofs of this seat: Own, Grid. Each part says what it proves; no condition beyond those stated there. -/
import Derived.Deep.AppendLies
import Derived.Test.YtehlbomkldnalaaGreatQ1

/- Lists that the call itself makes: owned rows whose elements are told by a function. -/
namespace Go.Proofs.YtehlbomkldnalaaGreat
open Go.RowKit

/-- what is known of an element type: its slice type t, its own number e, its cells -/
def ElemT (P : Program) (t e : TypeId) (sz : Nat) : Prop :=
 ∃ (i : TypeInfo) (z : Value) (bytes : Nat), P.underlying t = some (.slice e) ∧ P.info? e = some i ∧ i.zero = some z ∧ i.size = sz ∧ i.bytes = bytes ∧ z.cells.size = sz ∧ 0 < sz ∧ bytes ≤ 4096
theorem elemT_mk {P : Program} {t e : TypeId} {sz bytes : Nat} {z : Value} (ht : P.underlying t = some (.slice e)) (h : (P.info? e).map (fun i => (i.zero, i.size, i.bytes)) = some (some z, sz, bytes)) (hz : z.cells.size = sz) (h0 : 0 < sz) (hb : bytes ≤ 4096) : ElemT P t e sz := by
 obtain ⟨i, hi, h1, h2, h3⟩ := info_parts h
 exact ⟨i, z, bytes, ht, hi, h1, h2, h3, hz, h0, hb⟩

/-- a list that the call made, in blocks from base on -/
def Own {α : Type} (w : World) (base : Nat) (e : TypeId) (sz : Nat) (f : α → List Value) (v : Value) (l : List α) : Prop := w.ownsRow base e sz v l.length (l.flatMap f)
theorem flat_len {α : Type} {f : α → List Value} {n : Nat} (h : ∀ x, (f x).length = n) : ∀ l : List α, (l.flatMap f).length = l.length * n
 | [] => by simp
 | x :: r => by rw [List.flatMap_cons, List.length_append, h, flat_len h r, List.length_cons, Nat.succ_mul, Nat.add_comm]
theorem flat_at {α : Type} {f : α → List Value} {n : Nat} (h : ∀ x, (f x).length = n) : ∀ (l : List α) (i : Nat) (x : α), l[i]? = some x → ∀ (j : Nat) (v : Value), (f x)[j]? = some v → (l.flatMap f)[i * n + j]? = some v
 | [], i, x, hi, _, _, _ => by simp at hi
 | y :: r, 0, x, hi, j, v, hv => by
  simp at hi; subst hi
  rw [List.flatMap_cons, Nat.zero_mul, Nat.zero_add, List.getElem?_append_left (List.getElem?_eq_some_iff.1 hv).1]; exact hv
 | y :: r, i + 1, x, hi, j, v, hv => by
  simp at hi
  rw [List.flatMap_cons, List.getElem?_append_right (by rw [h, Nat.succ_mul]; omega), h, show (i + 1) * n + j - n = i * n + j by rw [Nat.succ_mul]; omega]
  exact flat_at h r i x hi j v hv
section
variable {α : Type} {w w' : World} {base : Nat} {e : TypeId} {sz : Nat} {f : α → List Value} {v : Value} {l : List α}
theorem Own.nil_ : Own w base e sz f (.slice none 0 0) ([] : List α) := World.ownsRow_nil _ _ _ _
theorem Own.alloc (h : Own w base e sz f v l) (o : Obj) : Own (w.alloc o) base e sz f v l := World.ownsRow.alloc h o
theorem Own.below (h : Own w base e sz f v l) (hb : Below w.heap.size w w') : Own w' base e sz f v l :=
 World.ownsRow.kept (row := none) h ⟨hb.os, hb.tape, hb.output, hb.size, fun k hk _ => hb.block k hk⟩ (by cases hv : v.ownBlock <;> simp)
theorem Own.drew (h : Own w base e sz f v l) : Own w.drew base e sz f v l := h.below (Below.refl _ _).drew
theorem Own.mono_base {b' : Nat} (h : Own w base e sz f v l) (hb : b' ≤ base) : Own w b' e sz f v l := by
 refine ⟨h.1, ?_⟩
 rcases h.2 with hn | ⟨g, cap, cur, h1, h2, h3⟩
 ·exact .inl hn
 ·exact .inr ⟨g, cap, cur, h1, by omega, h3⟩
/-- the value's form, and how it reads -/
theorem Own.form (h : Own w base e sz f v l) (hf : ∀ x, (f x).length = sz) : ∃ A c, v = .slice A l.length c ∧ Slc f sz w w.heap.size A l := by
 rcases h.2 with ⟨h1, h2⟩ | ⟨g, cap, cur, rfl, h2, h3, h4, h5, h6, h7⟩
 ·have : l = [] := List.length_eq_zero_iff.1 h2
  subst this
  exact ⟨none, 0, h1, Slc.nil_⟩
 ·refine ⟨some ⟨g, 0, none⟩, cap, rfl, fun i x hi => ⟨g, 0, rfl, ?_, fun j u hu => ?_⟩⟩
  ·exact (Array.getElem?_eq_some_iff.1 h3).1
  ·have h8 := flat_at hf l i x hi j u hu
   rw [← h7, List.getElem?_take] at h8
   split at h8
   ·rw [Nat.zero_add]
    rw [cell_of_row w g _ cur e (0, 0) h3]
    simpa using h8
   ·cases h8
theorem Own.form2 (h : Own w base e sz f v l) (hf : ∀ x, (f x).length = sz) : ∃ A c, v = .slice A l.length c ∧ l.length ≤ c ∧ Slc f sz w w.heap.size A l := by
 obtain ⟨A, c, h1, h2⟩ := h.form hf
 refine ⟨A, c, h1, ?_, h2⟩
 rcases h.2 with ⟨h3, h4⟩ | ⟨g, cap, cur, h3, _, _, h4, _⟩
 ·omega
 ·rw [h1] at h3; injection h3 with _ _ h5; omega
/-- .. where something is in it -/
theorem Own.at_ (h : Own w base e sz f v l) (hl : 0 < l.length) : ∃ g c, v = .slice (some ⟨g, 0, none⟩) l.length c ∧ base ≤ g ∧ g < w.heap.size := World.ownsRow.form h hl
end
end Go.Proofs.YtehlbomkldnalaaGreat

/- Rows that the call owns, each its own block, in a slice that it owns; append of one element to one of them. -/
namespace Go.Proofs.YtehlbomkldnalaaGreat
open Go Go.RowKit
theorem modify_get {α : Type} {l : List α} {j i : Nat} {f : α → α} : (l.modify j f)[i]? = if j = i then l[i]?.map f else l[i]? := by
 rw [List.getElem?_modify]
 cases l[i]? <;> by_cases h : j = i <;> simp [h]
/-- rows that the call owns, each its own block, in a slice -/
structure Grid (B : Nat) (w : World) (bp : Nat) (vs : List Value) (pl : List (List Int)) : Prop where
 blk : Blk w bp 72 vs.toArray
 len : vs.length = pl.length
 own : ∀ (i : Nat) v l, vs[i]? = some v → pl[i]? = some l → Own w B 3 1 intEnc v l
 ap : ∀ (i j : Nat) v v', i ≠ j → vs[i]? = some v → vs[j]? = some v' → ∀ g, v.ownBlock = some g → v'.ownBlock ≠ some g
 lo : bp < B
section
variable {B : Nat} {w w' : World} {bp : Nat} {vs : List Value} {pl : List (List Int)}
theorem Grid.below (h : Grid B w bp vs pl) (hb : Below w.heap.size w w') : Grid B w' bp vs pl :=
 ⟨h.blk.below hb h.blk.lt, h.len, fun i v l h1 h2 => (h.own i v l h1 h2).below hb, h.ap, h.lo⟩
theorem own_chg {α : Type} {w w' : World} {base : Nat} {e : TypeId} {sz : Nat} {f : α → List Value} {v : Value} {l : List α} {g : Nat} (h : Own w base e sz f v l) (hc : Chg (fun k => k = g) w w') (hg : g < base) : Own w' base e sz f v l :=
 World.ownsRow.kept (row := some g) h ⟨hc.os, hc.tape, hc.output, hc.size, fun k hk hne => hc.block k hk fun he => hne (by rw [he])⟩ (by
  cases hv : v.ownBlock with
  | none => exact .inl rfl
  | some q =>
   right
   have := World.ownsRow.lt h q hv
   intro he; injection he with he; omega)
theorem Grid.chg (h : Grid B w bp vs pl) {g : Nat} (hc : Chg (fun k => k = g) w w') (hg : g < B) (hne : bp ≠ g) : Grid B w' bp vs pl :=
 ⟨h.blk.chg1 hc hne, h.len, fun i v l h1 h2 => own_chg (h.own i v l h1 h2) hc hg, h.ap, h.lo⟩
theorem Grid.row (h : Grid B w bp vs pl) {i : Nat} {l : List Int} (hl : pl[i]? = some l) : ∃ v, vs[i]? = some v ∧ Own w B 3 1 intEnc v l ∧ w.cell? ⟨bp, i, none⟩ = some v := by
 have hi : i < vs.length := by rw [h.len]; exact (List.getElem?_eq_some_iff.1 hl).1
 have hv : vs[i]? = some vs[i] := List.getElem?_eq_getElem hi
 exact ⟨vs[i], hv, h.own i _ l hv hl, h.blk.cell_ i (by simp)⟩
/-- append to a row, and back -/
theorem Grid.app (h : Grid B w bp vs pl) {i : Nat} {v v' : Value} {l : List Int} {t : Int} {g : Nat} {w'' : World} (hv : vs[i]? = some v) (hl : pl[i]? = some l) (hown : Own w' B 3 1 intEnc v' (l ++ [t])) (hg : w.grownBy w' v.ownBlock) (hvg : v'.ownBlock = some g)
  (hf : v.ownBlock = some g ∨ w.heap.size ≤ g) (hb : Blk w'' bp 72 (vs.set i v').toArray) (hc : Chg (fun k => k = bp) w' w'') : Grid B w'' bp (vs.set i v') (pl.modify i fun l => l ++ [t]) := by
 have hil := (List.getElem?_eq_some_iff.1 hv).1
 refine ⟨hb, by simpa using h.len, fun j u m h1 h2 => ?_, fun j k u u' hne h1 h2 q hq => ?_, h.lo⟩
 ·rw [List.getElem?_set] at h1
  rw [modify_get] at h2
  by_cases hij : i = j
  ·subst hij
   rw [if_pos rfl, if_pos hil] at h1
   rw [if_pos rfl, hl] at h2
   injection h1 with h1
   injection h2 with h2
   subst h1 h2
   exact own_chg hown hc h.lo
  ·rw [if_neg hij] at h1 h2
   refine own_chg ?_ hc h.lo
   refine World.ownsRow.kept (h.own j u m h1 h2) hg ?_
   cases hu : u.ownBlock with
   | none => exact .inl rfl
   | some q =>
    right
    intro he
    exact h.ap i j v u hij hv h1 q he.symm hu
 ·rw [List.getElem?_set] at h1 h2
  have old : ∀ (j : Nat) u, j ≠ i → vs[j]? = some u → u.ownBlock ≠ some g := fun j u hj hu he => by
   rcases hf with hf | hf
   ·exact h.ap i j v u (Ne.symm hj) hv hu g hf he
   ·have hm : j < pl.length := by rw [← h.len]; exact (List.getElem?_eq_some_iff.1 hu).1
    have := (World.ownsRow.lt (h.own j u _ hu (List.getElem?_eq_getElem hm)) g he).2
    omega
  by_cases hij : i = j
  ·subst hij
   rw [if_pos rfl, if_pos hil] at h1
   injection h1 with h1
   subst h1
   rw [hvg] at hq
   injection hq with hq
   subst hq
   rw [if_neg hne] at h2
   exact old k u' (Ne.symm hne) h2
  ·rw [if_neg hij] at h1
   by_cases hik : i = k
   ·subst hik
    rw [if_pos rfl, if_pos hil] at h2
    injection h2 with h2
    subst h2
    rw [hvg]
    intro he
    injection he with he
    subst he
    exact old j u (Ne.symm hij) h1 hq
   ·rw [if_neg hik] at h2
    exact h.ap j k u u' hne h1 h2 q hq
end
theorem Grid.start {w : World} {bp n : Nat} (h : Blk w bp 72 (Array.replicate n (Value.slice none 0 0))) : Grid w.heap.size w bp (List.replicate n (.slice none 0 0)) (List.replicate n []) := by
 refine ⟨by simpa using h, by simp, fun i v l h1 h2 => ?_, fun i j v v' _ h1 _ g hg => ?_, h.lt⟩
 ·simp [List.getElem?_replicate] at h1 h2
  rw [← h1.2, h2.2]
  exact Own.nil_
 ·simp [List.getElem?_replicate] at h1
  rw [← h1.2] at hg
  cases hg
theorem Blk.grownv {w w' : World} {b : Nat} {t : TypeId} {cs : Array Value} {v : Value} (h : Blk w b t cs) (hg : w.grownBy w' v.ownBlock) (hn : ∀ k, v.ownBlock = some k → b ≠ k) : Blk w' b t cs := h.grown hg fun he => hn b he.symm rfl
theorem grownv_below {B : Nat} {w w' : World} {v : Value} (hg : w.grownBy w' v.ownBlock) (hB : B ≤ w.heap.size) (hn : ∀ k, v.ownBlock = some k → B ≤ k) : Below B w w' :=
 ⟨hg.os, hg.tape, hg.output, hg.size, fun k hk => hg.block k (by omega) fun he => by have := hn k he.symm; omega⟩
end Go.Proofs.YtehlbomkldnalaaGreat
