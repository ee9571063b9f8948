/- Parts of the proofs of this seat: Own. Each part says what it proves; no condition beyond those stated there. -/
import Derived.Deep.AppendLies
import Derived.Test.YtpeokpnjnmgloaaM1

/- Lists that the call itself makes: owned rows whose elements are told by a function. -/
namespace Go.Proofs.Ytpeokpnjnmgloaa
open Go.RowKit

/-- what is known of an element type: its slice type t, its own number e, its cells -/
def ElemT (P : Program) (t e : TypeId) (sz : Nat) : Prop :=
  ∃ (i : TypeInfo) (z : Value) (bytes : Nat), P.underlying t = some (.slice e) ∧ P.info? e = some i ∧ i.zero = some z ∧ i.size = sz ∧ i.bytes = bytes ∧ z.cells.size = sz ∧ 0 < sz ∧ bytes ≤ 4096
theorem elemT_mk {P : Program} {t e : TypeId} {sz bytes : Nat} {z : Value} (ht : P.underlying t = some (.slice e)) (h : (P.info? e).map (fun i => (i.zero, i.size, i.bytes)) = some (some z, sz, bytes)) (hz : z.cells.size = sz) (h0 : 0 < sz) (hb : bytes ≤ 4096) : ElemT P t e sz := by
  obtain ⟨i, hi, h1, h2, h3⟩ := info_parts h
  exact ⟨i, z, bytes, ht, hi, h1, h2, h3, hz, h0, hb⟩

/-- a list that the call made, in blocks from base on -/
def Own {α : Type} (w : World) (base : Nat) (e : TypeId) (sz : Nat) (f : α → List Value) (v : Value) (l : List α) : Prop := w.ownsRow base e sz v l.length (l.flatMap f)
theorem flat_len {α : Type} {f : α → List Value} {n : Nat} (h : ∀ x, (f x).length = n) : ∀ l : List α, (l.flatMap f).length = l.length * n
  | [] => by simp
  | x :: r => by rw [List.flatMap_cons, List.length_append, h, flat_len h r, List.length_cons, Nat.succ_mul, Nat.add_comm]
theorem flat_at {α : Type} {f : α → List Value} {n : Nat} (h : ∀ x, (f x).length = n) : ∀ (l : List α) (i : Nat) (x : α), l[i]? = some x → ∀ (j : Nat) (v : Value), (f x)[j]? = some v → (l.flatMap f)[i * n + j]? = some v
  | [], i, x, hi, _, _, _ => by simp at hi
  | y :: r, 0, x, hi, j, v, hv => by
    simp at hi; subst hi
    rw [List.flatMap_cons, Nat.zero_mul, Nat.zero_add, List.getElem?_append_left (List.getElem?_eq_some_iff.1 hv).1]; exact hv
  | y :: r, i + 1, x, hi, j, v, hv => by
    simp at hi
    rw [List.flatMap_cons, List.getElem?_append_right (by rw [h, Nat.succ_mul]; omega), h, show (i + 1) * n + j - n = i * n + j by rw [Nat.succ_mul]; omega]
    exact flat_at h r i x hi j v hv
section
variable {α : Type} {w w' : World} {base : Nat} {e : TypeId} {sz : Nat} {f : α → List Value} {v : Value} {l : List α}
theorem Own.nil_ : Own w base e sz f (.slice none 0 0) ([] : List α) := World.ownsRow_nil _ _ _ _
theorem Own.alloc (h : Own w base e sz f v l) (o : Obj) : Own (w.alloc o) base e sz f v l := World.ownsRow.alloc h o
theorem Own.below (h : Own w base e sz f v l) (hb : Below w.heap.size w w') : Own w' base e sz f v l :=
  World.ownsRow.kept (row := none) h ⟨hb.os, hb.tape, hb.output, hb.size, fun k hk _ => hb.block k hk⟩ (by cases hv : v.ownBlock <;> simp)
theorem Own.drew (h : Own w base e sz f v l) : Own w.drew base e sz f v l := h.below (Below.refl _ _).drew
theorem Own.setBelow (h : Own w base e sz f v l) {p : Addr} (hp : p.block < base) (u : Value) : Own (w.setCell p u) base e sz f v l := ownsRow_setCell_below h hp u
theorem Own.mono_base {b' : Nat} (h : Own w base e sz f v l) (hb : b' ≤ base) : Own w b' e sz f v l := by
  refine ⟨h.1, ?_⟩
  rcases h.2 with hn | ⟨g, cap, cur, h1, h2, h3⟩
  · exact .inl hn
  · exact .inr ⟨g, cap, cur, h1, by omega, h3⟩
/-- the value's form, and how it reads -/
theorem Own.form (h : Own w base e sz f v l) (hf : ∀ x, (f x).length = sz) : ∃ A c, v = .slice A l.length c ∧ Slc f sz w w.heap.size A l := by
  rcases h.2 with ⟨h1, h2⟩ | ⟨g, cap, cur, rfl, h2, h3, h4, h5, h6, h7⟩
  · have : l = [] := List.length_eq_zero_iff.1 h2
    subst this
    exact ⟨none, 0, h1, Slc.nil_⟩
  · refine ⟨some ⟨g, 0, none⟩, cap, rfl, fun i x hi => ⟨g, 0, rfl, ?_, fun j u hu => ?_⟩⟩
    · exact (Array.getElem?_eq_some_iff.1 h3).1
    · have h8 := flat_at hf l i x hi j u hu
      rw [← h7, List.getElem?_take] at h8
      split at h8
      · rw [Nat.zero_add]
        rw [cell_of_row w g _ cur e (0, 0) h3]
        simpa using h8
      · cases h8
theorem Own.form2 (h : Own w base e sz f v l) (hf : ∀ x, (f x).length = sz) : ∃ A c, v = .slice A l.length c ∧ l.length ≤ c ∧ Slc f sz w w.heap.size A l := by
  obtain ⟨A, c, h1, h2⟩ := h.form hf
  refine ⟨A, c, h1, ?_, h2⟩
  rcases h.2 with ⟨h3, h4⟩ | ⟨g, cap, cur, h3, _, _, h4, _⟩
  · omega
  · rw [h1] at h3; injection h3 with _ _ h5; omega
/-- .. where something is in it -/
theorem Own.at_ (h : Own w base e sz f v l) (hl : 0 < l.length) : ∃ g c, v = .slice (some ⟨g, 0, none⟩) l.length c ∧ base ≤ g ∧ g < w.heap.size := World.ownsRow.form h hl
/-- append of one element that has been laid into a block of its own -/
theorem wpList_app {P : Program} {ops : Array Oper} {rest : List Oper} {o : Oper} {a : Act} {Q : Exit → Act → World → Prop} {cs : Array Value} {y : α} (s x : Operand) {t : TypeId} (hgd : o.guard = none)
    (ho : o.op = .call { callee := .builtin .append, args := #[s, x], argTypes := #[t, t] }) (he : ElemT P t e sz) (hown : Own w base e sz f v l) (hs : a.eval s = v) (hx : a.eval x = .slice (some ⟨w.heap.size, 0, none⟩) 1 1)
    (hcs : cs.toList = f y) (hsz : (f y).length = sz) (h1 : (f y).all Value.oneCell' = true) (hlen : l.length ≤ 1000000000) (hbase : base ≤ w.heap.size)
    (h : ∀ v' w', Own w' base e sz f v' (l ++ [y]) → Below base w w' → w'.heap.size > base → wpList P ops Q rest (a.put o.dst v') w') : wpList P ops Q (o :: rest) a (w.alloc (.cells cs e)) := by
  obtain ⟨i, z, bytes, ht, hi, hz, hsize, hby, hzs, h0, hb⟩ := he
  refine wpList_append_lies (w.alloc (.cells cs e)) hgd s x t ho base e i z sz bytes ht hi hz hsize hby hzs h0 v l.length (l.flatMap f) hs (World.ownsRow.alloc hown _) ⟨w.heap.size, 0, none⟩ 1 1 (f y) hx (by omega) ?_ ?_ (by omega) (by unfold maxLen; omega) ?_ (by simp; omega) (w.heap.size + 1) (by simp) ?_
  · intro j u hu
    rw [← hcs] at hu
    exact World.news_of_block (heap_alloc_new w (.cells cs e)) j u hu
  · exact fun u hu => List.all_eq_true.1 h1 u hu
  · calc (l.length + 1) * bytes ≤ 1000000001 * 4096 := Nat.mul_le_mul (by omega) hb
      _ ≤ _ := by omega
  · intro g cap w' h2 h3 h4 h5
    refine h _ w' ?_ (((Below.refl base w).alloc hbase _).grown h3 (by simp; omega) fun k hk => (World.ownsRow.lt hown k hk).1) ?_
    · show w'.ownsRow _ _ _ _ _ _
      rw [List.length_append, List.flatMap_append, List.flatMap_cons, List.flatMap_nil, List.append_nil]
      exact h2
    · have := h3.size
      simp at this
      omega
/-- .. at a step of a region that draws: the new element lies in a block that is known whole -/
theorem step_app {P : Program} {ops : Array Oper} {o : Oper} {a : Act} {K : Act → World → Prop} {Q : Exit → Act → World → Prop} {E : Prop} {cs : Array Value} {y : α} {nb : Nat} (s x : Operand) {t : TypeId} (hgd : o.guard = none)
    (ho : o.op = .call { callee := .builtin .append, args := #[s, x], argTypes := #[t, t] }) (he : ElemT P t e sz) (hown : Own w base e sz f v l) (hs : a.eval s = v) (hx : a.eval x = .slice (some ⟨nb, 0, none⟩) 1 1)
    (hbl : Blk w nb e cs) (hcs : cs.toList = f y) (hsz : (f y).length = sz) (h1 : (f y).all Value.oneCell' = true) (hlen : l.length ≤ 1000000000) (hbase : base ≤ w.heap.size)
    (h : ∀ v' w', Own w' base e sz f v' (l ++ [y]) → Below base w w' → w'.heap.size > base → K (a.put o.dst v') w') :
    if Region.wanted o (yielded ops a.tmps) = true then Oper.wp P o a w K Q else E := by
  obtain ⟨i, z, bytes, ht, hi, hz, hsize, hby, hzs, h0, hb⟩ := he
  refine step_append_lies w hgd s x t ho base e i z sz bytes ht hi hz hsize hby hzs h0 v l.length (l.flatMap f) hs hown ⟨nb, 0, none⟩ 1 1 (f y) hx (by omega) ?_ ?_ (by omega) (by unfold maxLen; omega) ?_ hbase w.heap.size rfl ?_
  · intro j u hu
    rw [← hcs] at hu
    exact World.news_of_block hbl j u hu
  · exact fun u hu => List.all_eq_true.1 h1 u hu
  · calc (l.length + 1) * bytes ≤ 1000000001 * 4096 := Nat.mul_le_mul (by omega) hb
      _ ≤ _ := by omega
  · intro g cap w' h2 h3 h4 h5
    refine h _ w' ?_ ((Below.refl base w).grown h3 (by omega) fun k hk => (World.ownsRow.lt hown k hk).1) ?_
    · show w'.ownsRow _ _ _ _ _ _
      rw [List.length_append, List.flatMap_append, List.flatMap_cons, List.flatMap_nil, List.append_nil]
      exact h2
    · have := World.ownsRow.lt h2 g rfl
      have := h3.size
      omega
end
end Go.Proofs.Ytpeokpnjnmgloaa
