/- Rows that the call owns, each its own block, in a slice that it owns; append of one element to one of them. -/
import Derived.Test.YtecaaimaeaocbaaDoorOwn
import Derived.Test.YtecaaimaeaocbaaDoorChg
import Derived.Deep.AppendLies
namespace Go.Proofs.YtecaaimaeaocbaaDoor
open Go Go.RowKit
theorem modify_get {α : Type} {l : List α} {j i : Nat} {f : α → α} : (l.modify j f)[i]? = if j = i then l[i]?.map f else l[i]? := by
  rw [List.getElem?_modify]
  cases l[i]? <;> by_cases h : j = i <;> simp [h]
/-- append of one element that lies in a block known whole: only the list's own block turns -/
theorem wpList_app_lies {α : Type} {P : Program} {ops : Array Oper} {rest : List Oper} {o : Oper} {a : Act} {Q : Exit → Act → World → Prop} {w : World} {base : Nat} {e : TypeId} {sz : Nat} {f : α → List Value} {v : Value} {l : List α} {cs : Array Value} {y : α} {nb : Nat} (s x : Operand) {t : TypeId} (hgd : o.guard = none)
    (ho : o.op = .call { callee := .builtin .append, args := #[s, x], argTypes := #[t, t] }) (he : ElemT P t e sz) (hown : Own w base e sz f v l) (hs : a.eval s = v) (hx : a.eval x = .slice (some ⟨nb, 0, none⟩) 1 1)
    (hbl : Blk w nb e cs) (hcs : cs.toList = f y) (hsz : (f y).length = sz) (h1 : (f y).all Value.oneCell' = true) (hlen : l.length ≤ 1000000000) (hbase : base ≤ w.heap.size)
    (h : ∀ g cap w', Own w' base e sz f (.slice (some ⟨g, 0, none⟩) (l.length + 1) cap) (l ++ [y]) → w.grownBy w' v.ownBlock → (v.ownBlock = some g ∨ g = w.heap.size) → g < w'.heap.size → wpList P ops Q rest (a.put o.dst (.slice (some ⟨g, 0, none⟩) (l.length + 1) cap)) w') : wpList P ops Q (o :: rest) a w := by
  obtain ⟨i, z, bytes, ht, hi, hz, hsize, hby, hzs, h0, hb⟩ := he
  refine wpList_append_lies w hgd s x t ho base e i z sz bytes ht hi hz hsize hby hzs h0 v l.length (l.flatMap f) hs hown ⟨nb, 0, none⟩ 1 1 (f y) hx (by omega) ?_ ?_ (by omega) (by unfold maxLen; omega) ?_ hbase w.heap.size rfl ?_
  · intro j u hu
    rw [← hcs] at hu
    exact World.news_of_block hbl j u hu
  · exact fun u hu => List.all_eq_true.1 h1 u hu
  · calc (l.length + 1) * bytes ≤ 1000000001 * 4096 := Nat.mul_le_mul (by omega) hb
      _ ≤ _ := by omega
  · intro g cap w' h2 h3 h4 h5
    refine h g cap w' ?_ h3 h4 h5
    show w'.ownsRow _ _ _ _ _ _
    rw [List.length_append, List.flatMap_append, List.flatMap_cons, List.flatMap_nil, List.append_nil]
    exact h2
/-- rows that the call owns, each its own block, in a slice -/
structure Grid (B : Nat) (w : World) (bp : Nat) (vs : List Value) (pl : List (List Int)) : Prop where
  blk : Blk w bp 25 vs.toArray
  len : vs.length = pl.length
  own : ∀ (i : Nat) v l, vs[i]? = some v → pl[i]? = some l → Own w B 3 1 intEnc v l
  ap : ∀ (i j : Nat) v v', i ≠ j → vs[i]? = some v → vs[j]? = some v' → ∀ g, v.ownBlock = some g → v'.ownBlock ≠ some g
  lo : bp < B
section
variable {B : Nat} {w w' : World} {bp : Nat} {vs : List Value} {pl : List (List Int)}
theorem Grid.below (h : Grid B w bp vs pl) (hb : Below w.heap.size w w') : Grid B w' bp vs pl :=
  ⟨h.blk.below hb h.blk.lt, h.len, fun i v l h1 h2 => (h.own i v l h1 h2).below hb, h.ap, h.lo⟩
theorem own_chg {α : Type} {w w' : World} {base : Nat} {e : TypeId} {sz : Nat} {f : α → List Value} {v : Value} {l : List α} {g : Nat} (h : Own w base e sz f v l) (hc : Chg (fun k => k = g) w w') (hg : g < base) : Own w' base e sz f v l :=
  World.ownsRow.kept (row := some g) h ⟨hc.os, hc.tape, hc.output, hc.size, fun k hk hne => hc.block k hk fun he => hne (by rw [he])⟩ (by
    cases hv : v.ownBlock with
    | none => exact .inl rfl
    | some q =>
      right
      have := World.ownsRow.lt h q hv
      intro he; injection he with he; omega)
theorem Grid.chg (h : Grid B w bp vs pl) {g : Nat} (hc : Chg (fun k => k = g) w w') (hg : g < B) (hne : bp ≠ g) : Grid B w' bp vs pl :=
  ⟨h.blk.chg1 hc hne, h.len, fun i v l h1 h2 => own_chg (h.own i v l h1 h2) hc hg, h.ap, h.lo⟩
theorem Grid.row (h : Grid B w bp vs pl) {i : Nat} {l : List Int} (hl : pl[i]? = some l) : ∃ v, vs[i]? = some v ∧ Own w B 3 1 intEnc v l ∧ w.cell? ⟨bp, i, none⟩ = some v := by
  have hi : i < vs.length := by rw [h.len]; exact (List.getElem?_eq_some_iff.1 hl).1
  have hv : vs[i]? = some vs[i] := List.getElem?_eq_getElem hi
  exact ⟨vs[i], hv, h.own i _ l hv hl, h.blk.cell_ i (by simp)⟩
/-- append to a row, and back -/
theorem Grid.app (h : Grid B w bp vs pl) {i : Nat} {v v' : Value} {l : List Int} {t : Int} {g : Nat} {w'' : World} (hv : vs[i]? = some v) (hl : pl[i]? = some l) (hown : Own w' B 3 1 intEnc v' (l ++ [t])) (hg : w.grownBy w' v.ownBlock) (hvg : v'.ownBlock = some g)
    (hf : v.ownBlock = some g ∨ w.heap.size ≤ g) (hb : Blk w'' bp 25 (vs.set i v').toArray) (hc : Chg (fun k => k = bp) w' w'') : Grid B w'' bp (vs.set i v') (pl.modify i fun l => l ++ [t]) := by
  have hil := (List.getElem?_eq_some_iff.1 hv).1
  refine ⟨hb, by simpa using h.len, fun j u m h1 h2 => ?_, fun j k u u' hne h1 h2 q hq => ?_, h.lo⟩
  · rw [List.getElem?_set] at h1
    rw [modify_get] at h2
    by_cases hij : i = j
    · subst hij
      rw [if_pos rfl, if_pos hil] at h1
      rw [if_pos rfl, hl] at h2
      injection h1 with h1
      injection h2 with h2
      subst h1 h2
      exact own_chg hown hc h.lo
    · rw [if_neg hij] at h1 h2
      refine own_chg ?_ hc h.lo
      refine World.ownsRow.kept (h.own j u m h1 h2) hg ?_
      cases hu : u.ownBlock with
      | none => exact .inl rfl
      | some q =>
        right
        intro he
        exact h.ap i j v u hij hv h1 q he.symm hu
  · rw [List.getElem?_set] at h1 h2
    have old : ∀ (j : Nat) u, j ≠ i → vs[j]? = some u → u.ownBlock ≠ some g := fun j u hj hu he => by
      rcases hf with hf | hf
      · exact h.ap i j v u (Ne.symm hj) hv hu g hf he
      · have hm : j < pl.length := by rw [← h.len]; exact (List.getElem?_eq_some_iff.1 hu).1
        have := (World.ownsRow.lt (h.own j u _ hu (List.getElem?_eq_getElem hm)) g he).2
        omega
    by_cases hij : i = j
    · subst hij
      rw [if_pos rfl, if_pos hil] at h1
      injection h1 with h1
      subst h1
      rw [hvg] at hq
      injection hq with hq
      subst hq
      rw [if_neg hne] at h2
      exact old k u' (Ne.symm hne) h2
    · rw [if_neg hij] at h1
      by_cases hik : i = k
      · subst hik
        rw [if_pos rfl, if_pos hil] at h2
        injection h2 with h2
        subst h2
        rw [hvg]
        intro he
        injection he with he
        subst he
        exact old j u (Ne.symm hij) h1 hq
      · rw [if_neg hik] at h2
        exact h.ap j k u u' hne h1 h2 q hq
end
theorem rep_set {α : Type} (m q : Nat) (a b : α) : (List.replicate m a ++ List.replicate (q + 1) b).set m a = List.replicate (m + 1) a ++ List.replicate q b := by
  rw [List.set_append_right _ _ (by simp), List.replicate_succ' (n := m)]
  simp [List.replicate_succ (n := q)]
theorem Grid.start {w : World} {bp n : Nat} (h : Blk w bp 25 (Array.replicate n (Value.slice none 0 0))) : Grid w.heap.size w bp (List.replicate n (.slice none 0 0)) (List.replicate n []) := by
  refine ⟨by simpa using h, by simp, fun i v l h1 h2 => ?_, fun i j v v' _ h1 _ g hg => ?_, h.lt⟩
  · simp [List.getElem?_replicate] at h1 h2
    rw [← h1.2, h2.2]
    exact Own.nil_
  · simp [List.getElem?_replicate] at h1
    rw [← h1.2] at hg
    cases hg
theorem Blk.grownv {w w' : World} {b : Nat} {t : TypeId} {cs : Array Value} {v : Value} (h : Blk w b t cs) (hg : w.grownBy w' v.ownBlock) (hn : ∀ k, v.ownBlock = some k → b ≠ k) : Blk w' b t cs := h.grown hg fun he => hn b he.symm rfl
theorem grownv_below {B : Nat} {w w' : World} {v : Value} (hg : w.grownBy w' v.ownBlock) (hB : B ≤ w.heap.size) (hn : ∀ k, v.ownBlock = some k → B ≤ k) : Below B w w' :=
  ⟨hg.os, hg.tape, hg.output, hg.size, fun k hk => hg.block k (by omega) fun he => by have := hn k he.symm; omega⟩
theorem own_ne_blk {α : Type} {w : World} {base b : Nat} {e t : TypeId} {sz : Nat} {f : α → List Value} {v : Value} {l : List α} {cs : Array Value} (h : Own w base e sz f v l) (hb : Blk w b t cs) (hne : e ≠ t) : ∀ k, v.ownBlock = some k → b ≠ k := fun k hk => by
  rcases h.2 with ⟨h1, _⟩ | ⟨g, cap, cur, h1, _, h3, _⟩
  · rw [h1] at hk; cases hk
  · rw [h1] at hk
    injection hk with hk
    rintro rfl
    have hk' : g = b := hk
    subst hk'
    unfold Blk at hb
    rw [h3] at hb
    injection hb with hb
    injection hb with _ hb
    exact hne hb
theorem own_ne_own {α β : Type} {w : World} {base base' : Nat} {e e' : TypeId} {sz sz' : Nat} {f : α → List Value} {f' : β → List Value} {v v' : Value} {l : List α} {l' : List β} (h : Own w base e sz f v l) (h' : Own w base' e' sz' f' v' l') (hne : e ≠ e') : ∀ k, v.ownBlock = some k → v'.ownBlock ≠ some k := fun k hk hk' => by
  rcases h'.2 with ⟨h1, _⟩ | ⟨g, cap, cur, h1, _, h3, _⟩
  · rw [h1] at hk'; cases hk'
  · rw [h1] at hk'
    injection hk' with hk'
    have hk2 : g = k := hk'
    subst hk2
    exact own_ne_blk h h3 hne g hk rfl
theorem own_ge {α : Type} {w : World} {base : Nat} {e : TypeId} {sz : Nat} {f : α → List Value} {v : Value} {l : List α} (h : Own w base e sz f v l) : ∀ k, v.ownBlock = some k → base ≤ k ∧ k < w.heap.size := fun k hk => World.ownsRow.lt h k hk
end Go.Proofs.YtecaaimaeaocbaaDoor
