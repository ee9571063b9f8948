/- A list of batches that the call owns, each with counts of its own: the plan that canonical makes. -/
import Derived.Test.YtecaaimaeaocbaaDoorKSort
import Derived.Test.YtecaaimaeaocbaaDoorGrid
namespace Go.Proofs.YtecaaimaeaocbaaDoor
open Go Go.RowKit
theorem own_blkF {α : Type} {f : α → List Value} {sz : Nat} {w : World} {base : Nat} {e : TypeId} {A : Option Addr} {c : Nat} {l : List α} {n : Nat} (h : Own w base e sz f (.slice A n c) l) (hl : l ≠ []) : ∃ b js, A = some ⟨b, 0, none⟩ ∧ base ≤ b ∧ Blk w b e (l.flatMap f ++ js).toArray := by
  rcases h.2 with ⟨_, h2⟩ | ⟨b, cap, cur, h1, h2, h3, _, _, _, h7⟩
  · exact absurd (List.length_eq_zero_iff.1 h2) hl
  · injection h1 with h1 _ _
    refine ⟨b, cur.toList.drop (l.length * sz), h1, h2, ?_⟩
    show _ = _
    rw [h3, ← h7, List.take_append_drop]
theorem blkF_get {α : Type} {f : α → List Value} {n : Nat} (hf : ∀ x, (f x).length = n) {l : List α} {js : List Value} {i j : Nat} {x : α} (hx : l[i]? = some x) {v : Value} (hv : (f x)[j]? = some v) : (l.flatMap f ++ js).toArray[i * n + j]? = some v := by
  have h1 := flat_at hf l i x hx j v hv
  rw [List.getElem?_toArray, List.getElem?_append_left (List.getElem?_eq_some_iff.1 h1).1]
  exact h1
theorem flat_set {α : Type} {f : α → List Value} {n : Nat} (hf : ∀ x, (f x).length = n) : ∀ {l : List α} {js : List Value} {q j : Nat} {x x' : α} {v : Value}, l[q]? = some x → j < n → f x' = (f x).set j v → (l.flatMap f ++ js).set (q * n + j) v = (l.set q x').flatMap f ++ js
  | [], _, _, _, _, _, _, h, _, _ => by simp at h
  | y :: r, js, 0, j, x, x', v, h, hj, he => by
    simp at h
    subst h
    rw [List.set_cons_zero, List.flatMap_cons, List.flatMap_cons, List.append_assoc, List.append_assoc, Nat.zero_mul, Nat.zero_add, List.set_append_left _ _ (by rw [hf]; exact hj), he]
  | y :: r, js, q + 1, j, x, x', v, h, hj, he => by
    simp at h
    rw [List.set_cons_succ, List.flatMap_cons, List.flatMap_cons, List.append_assoc, List.append_assoc, List.set_append_right _ _ (by rw [hf, Nat.succ_mul]; omega), hf, show (q + 1) * n + j - n = q * n + j by rw [Nat.succ_mul]; omega, flat_set hf h hj he]
theorem blkF_slc {α : Type} {f : α → List Value} {n : Nat} (hf : ∀ x, (f x).length = n) {w : World} {g : Nat} {e : TypeId} {l : List α} {js : List Value} (h : Blk w g e (l.flatMap f ++ js).toArray) : Slc f n w w.heap.size (some ⟨g, 0, none⟩) l := fun i x hx =>
  ⟨g, 0, rfl, h.lt, fun j v hv => by rw [Nat.zero_add]; exact h.cell_ _ (blkF_get hf hx hv)⟩
/-- what the call has made so far: batches whose counts it owns -/
structure OutIn (w : World) (base : Nat) (os : List Bt) (pl : List Bat) : Prop where
  len : os.length = pl.length
  in_ : ∀ (i : Nat) b p, os[i]? = some b → pl[i]? = some p → b.t = p.t ∧ b.n = p.ps.length ∧ p.ps ≠ [] ∧ Own w base 3 1 intEnc (.slice b.A b.n b.c) p.ps
theorem OutIn.nil_ (w : World) (base : Nat) : OutIn w base [] [] := ⟨rfl, fun i b p h => by simp at h⟩
theorem OutIn.below {w w' : World} {base : Nat} {os : List Bt} {pl : List Bat} (h : OutIn w base os pl) (hb : Below w.heap.size w w') : OutIn w' base os pl :=
  ⟨h.len, fun i b p h1 h2 => by
    obtain ⟨a1, a2, a3, a4⟩ := h.in_ i b p h1 h2
    exact ⟨a1, a2, a3, a4.below hb⟩⟩
theorem own_kept {α : Type} {w w' : World} {base : Nat} {e : TypeId} {sz : Nat} {f : α → List Value} {v : Value} {l : List α} {row : Option Nat} (h : Own w base e sz f v l) (hg : w.grownBy w' row) (hr : ∀ b, v.ownBlock = some b → row ≠ some b) : Own w' base e sz f v l :=
  World.ownsRow.kept h hg (by
    cases hv : v.ownBlock with
    | none => exact .inl rfl
    | some q => exact .inr fun he => hr q hv he.symm)
/-- the list grows: its batches' counts lie in blocks of numbers, not in its own -/
theorem OutIn.grown {w w' : World} {base base' : Nat} {os os' : List Bt} {pl : List Bat} {v : Value} (h : OutIn w base os pl) (hO : Own w base' 73 2 Bt.enc v os') (hg : w.grownBy w' v.ownBlock) : OutIn w' base os pl :=
  ⟨h.len, fun i b p h1 h2 => by
    obtain ⟨a1, a2, a3, a4⟩ := h.in_ i b p h1 h2
    exact ⟨a1, a2, a3, own_kept a4 hg fun k hk hv => own_ne_own a4 hO (by decide) k hk hv⟩⟩
theorem OutIn.snoc {w : World} {base : Nat} {os : List Bt} {pl : List Bat} (h : OutIn w base os pl) {b : Bt} {p : Bat} (h1 : b.t = p.t) (h2 : b.n = p.ps.length) (h3 : p.ps ≠ []) (h4 : Own w base 3 1 intEnc (.slice b.A b.n b.c) p.ps) : OutIn w base (os ++ [b]) (pl ++ [p]) :=
  ⟨by rw [List.length_append, List.length_append, h.len]; rfl, fun i b' p' hb hp => by
    rcases Nat.lt_or_ge i os.length with hi | hi
    · rw [List.getElem?_append_left hi] at hb
      rw [List.getElem?_append_left (by rw [← h.len]; exact hi)] at hp
      exact h.in_ i b' p' hb hp
    · rw [List.getElem?_append_right hi] at hb
      rw [List.getElem?_append_right (by rw [← h.len]; exact hi), ← h.len] at hp
      have hz : i - os.length = 0 := by
        have := (List.getElem?_eq_some_iff.1 hb).1
        simp at this; omega
      rw [hz] at hb hp
      simp at hb hp
      subst hb hp
      exact ⟨h1, h2, h3, h4⟩⟩
theorem OutIn.plan {w : World} {base : Nat} {os : List Bt} {pl : List Bat} {A : Option Addr} (h : OutIn w base os pl) (hS : Slc Bt.enc 2 w w.heap.size A os) : PlanAt w A os pl :=
  ⟨hS, h.len, fun i b p h1 h2 => by
    obtain ⟨a1, a2, a3, a4⟩ := h.in_ i b p h1 h2
    rw [a2] at a4
    exact ⟨a1, a2, a4.slc fun _ => rfl⟩⟩
/-- a store into the block of an owned list -/
theorem own_putF {α : Type} {f : α → List Value} {sz : Nat} {w w' : World} {base b cap n : Nat} {e : TypeId} {l l' : List α} {js : List Value} (hf : ∀ x, (f x).length = sz) (h : Own w base e sz f (.slice (some ⟨b, 0, none⟩) n cap) l) (hl : l'.length = l.length) (hw : Blk w b e (l.flatMap f ++ js).toArray) (hw' : Blk w' b e (l'.flatMap f ++ js).toArray) : Own w' base e sz f (.slice (some ⟨b, 0, none⟩) n cap) l' := by
  refine ⟨flat_len hf l', .inr ?_⟩
  have hfl : (l'.flatMap f).length = (l.flatMap f).length := by rw [flat_len hf, flat_len hf, hl]
  rcases h.2 with ⟨h1, _⟩ | ⟨g, cap', cur, h1, h2, h3, h4, h5, h6, h7⟩
  · cases h1
  · injection h1 with h1 h8 h9
    injection h1 with h1
    injection h1 with h1
    subst h1 h8 h9
    have ec : cur = (l.flatMap f ++ js).toArray := by
      have h10 : w.heap[b]? = some (Obj.cells (l.flatMap f ++ js).toArray e (0, 0)) := hw
      rw [h3] at h10
      injection h10 with h10
      injection h10
    subst ec
    refine ⟨b, cap, _, by rw [hl], h2, hw', by omega, h5, ?_, ?_⟩
    · rw [← h6]
      simp only [List.size_toArray, List.length_append, hfl]
    · rw [List.take_append_of_le_length (by rw [flat_len hf]; exact Nat.le_refl _)]
      exact List.take_of_length_le (by rw [flat_len hf]; exact Nat.le_refl _)
end Go.Proofs.YtecaaimaeaocbaaDoor
