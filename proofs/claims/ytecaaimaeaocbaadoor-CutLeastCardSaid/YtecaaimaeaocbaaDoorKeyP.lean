/- A stable sort by a key: the plain words. -/
import Derived.Test.YtecaaimaeaocbaaDoorStabInt
namespace Go.Proofs.YtecaaimaeaocbaaDoor
open Go Go.Sort Go.RowKit
section
variable {α : Type} (key : α → Int)
def TK (x y : α × Nat) : Prop := key x.1 < key y.1 ∨ (key x.1 = key y.1 ∧ x.2 < y.2)
def insK (a : α) : List α → List α
  | [] => [a]
  | b :: r => if key a < key b then a :: b :: r else b :: insK a r
def sortK (l : List α) : List α := l.foldl (fun acc a => insK key a acc) []
def insKT (a : α × Nat) : List (α × Nat) → List (α × Nat)
  | [] => [a]
  | b :: r => if key a.1 < key b.1 then a :: b :: r else b :: insKT a r
theorem insKT_map (a : α × Nat) : ∀ l, (insKT key a l).map (·.1) = insK key a.1 (l.map (·.1))
  | [] => rfl
  | b :: r => by
    unfold insKT
    simp only [List.map_cons]
    rw [insK]
    split
    · rfl
    · rw [List.map_cons, insKT_map a r]
theorem insKT_perm (a : α × Nat) : ∀ l, (insKT key a l).Perm (a :: l)
  | [] => List.Perm.refl _
  | b :: r => by
    unfold insKT
    split
    · exact List.Perm.refl _
    · exact ((insKT_perm a r).cons b).trans (List.Perm.swap a b r)
theorem insK_perm (a : α) : ∀ l, (insK key a l).Perm (a :: l)
  | [] => List.Perm.refl _
  | b :: r => by
    unfold insK
    split
    · exact List.Perm.refl _
    · exact ((insK_perm a r).cons b).trans (List.Perm.swap a b r)
theorem insK_sorted (a : α) : ∀ l : List α, l.Pairwise (fun x y => key x ≤ key y) → (insK key a l).Pairwise (fun x y => key x ≤ key y)
  | [], _ => by simp [insK]
  | b :: r, h => by
    unfold insK
    have h1 := List.pairwise_cons.1 h
    split
    · rename_i hlt
      refine List.pairwise_cons.2 ⟨fun c hc => ?_, h⟩
      rcases List.mem_cons.1 hc with rfl | hc
      · omega
      · have := h1.1 c hc
        omega
    · rename_i hge
      refine List.pairwise_cons.2 ⟨fun c hc => ?_, insK_sorted a r h1.2⟩
      rcases List.mem_cons.1 ((insK_perm key a r).subset hc) with rfl | hc
      · omega
      · exact h1.1 c hc
theorem fold_perm : ∀ (l acc : List α), (l.foldl (fun acc a => insK key a acc) acc).Perm (acc ++ l)
  | [], acc => by simp
  | a :: l, acc => (fold_perm l (insK key a acc)).trans (((insK_perm key a acc).append_right l).trans List.perm_middle.symm)
theorem sortK_perm (l : List α) : (sortK key l).Perm l := by simpa [sortK] using fold_perm key l []
theorem sortK_len (l : List α) : (sortK key l).length = l.length := (sortK_perm key l).length_eq
theorem fold_asc : ∀ (l acc : List α), acc.Pairwise (fun x y => key x ≤ key y) → (l.foldl (fun acc a => insK key a acc) acc).Pairwise (fun x y => key x ≤ key y)
  | [], _, h => h
  | a :: l, acc, h => fold_asc l (insK key a acc) (insK_sorted key a acc h)
theorem sortK_asc (l : List α) : (sortK key l).Pairwise (fun x y => key x ≤ key y) := fold_asc key l [] List.Pairwise.nil
theorem sortK_snoc (l : List α) (a : α) : sortK key (l ++ [a]) = insK key a (sortK key l) := by unfold sortK; rw [List.foldl_append]; rfl
/-- where a new element comes to lie -/
theorem insK_split (a : α) : ∀ (l : List α) (k : Nat), k ≤ l.length → (∀ (i : Nat) x, i < k → l[i]? = some x → key x ≤ key a) → (∀ x, l[k]? = some x → key a < key x) → insK key a l = l.take k ++ a :: l.drop k
  | [], k, h, _, _ => by
    obtain rfl : k = 0 := by simpa using h
    rfl
  | b :: r, 0, _, _, h => by
    unfold insK
    rw [if_pos (h b rfl)]; rfl
  | b :: r, k + 1, hk, h1, h2 => by
    unfold insK
    rw [if_neg (by have := h1 0 b (by omega) rfl; omega), insK_split a r k (by simpa using hk) (fun i x hi hx => h1 (i + 1) x (by omega) (by simpa using hx)) (fun x hx => h2 x (by simpa using hx))]
    rfl
variable {key}
theorem insKT_sorted (a : α × Nat) : ∀ l : List (α × Nat), l.Pairwise (TK key) → (∀ b ∈ l, b.2 < a.2) → (insKT key a l).Pairwise (TK key)
  | [], _, _ => by simp [insKT]
  | b :: r, h, ht => by
    unfold insKT
    have h1 := List.pairwise_cons.1 h
    split
    · rename_i hlt
      refine List.pairwise_cons.2 ⟨fun c hc => ?_, h⟩
      rcases List.mem_cons.1 hc with rfl | hc
      · exact .inl hlt
      · have := h1.1 c hc
        unfold TK at this ⊢
        omega
    · rename_i hge
      refine List.pairwise_cons.2 ⟨fun c hc => ?_, insKT_sorted a r h1.2 fun c hc => ht c (by simp [hc])⟩
      rcases List.mem_cons.1 ((insKT_perm key a r).subset hc) with rfl | hc
      · have := ht b (by simp)
        unfold TK
        omega
      · exact h1.1 c hc
theorem foldK_sorted : ∀ (l : List α) (n : Nat) (acc : List (α × Nat)), acc.Pairwise (TK key) → (∀ b ∈ acc, b.2 < n) →
    ∃ s : List (α × Nat), s.Pairwise (TK key) ∧ s.Perm (acc ++ l.zipIdx n) ∧ s.map (·.1) = l.foldl (fun acc a => insK key a acc) (acc.map (·.1))
  | [], n, acc, h, _ => ⟨acc, h, by simp, rfl⟩
  | a :: l, n, acc, h, ht => by
    obtain ⟨s, h1, h2, h3⟩ := foldK_sorted l (n + 1) (insKT key (a, n) acc) (insKT_sorted _ _ h ht) (fun b hb => by
      rcases List.mem_cons.1 ((insKT_perm key (a, n) acc).subset hb) with rfl | hb
      · exact Nat.lt_succ_self _
      · exact Nat.lt_succ_of_lt (ht b hb))
    refine ⟨s, h1, h2.trans ?_, by rw [h3, insKT_map]; rfl⟩
    rw [List.zipIdx_cons]
    exact ((insKT_perm key (a, n) acc).append_right _).trans (List.perm_middle (l₁ := acc)).symm
def tagK (l : List α) : Array (α × Nat) := (l.zipIdx).toArray
theorem tagK_size (l : List α) : (tagK l).size = l.length := by simp [tagK]
theorem tagK_at [Inhabited α] {l : List α} {i : Nat} {a : α} (h : l[i]? = some a) : (tagK l)[i]! = (a, i) := by
  have hi := (List.getElem?_eq_some_iff.1 h).1
  rw [getElem!_pos _ _ (by simpa [tagK] using hi)]
  simp [tagK, (List.getElem?_eq_some_iff.1 h).2]
/-- the tagged elements in ascending order are one list -/
theorem sortedK_eq [Inhabited α] {lt : α → α → Bool} (hlt : ∀ x y, lt x y = decide (key x < key y)) {l : List α} {r : Array (α × Nat)} (hp : PermIn 0 l.length (tagK l) r) (ht : TS lt 0 l.length r) : r.toList.map (·.1) = sortK key l := by
  obtain ⟨s, h1, h2, h3⟩ := foldK_sorted (key := key) l 0 [] List.Pairwise.nil (fun b hb => by cases hb)
  obtain ⟨hs, _, hq⟩ := hp
  rw [tagK_size] at hs
  have e1 : (r.extract 0 l.length).toList = r.toList := by simp [← hs]
  have e2 : ((tagK l).extract 0 l.length).toList = l.zipIdx := by
    simp only [tagK, List.extract_toArray, List.extract_eq_take_drop, List.drop_zero, Nat.sub_zero]
    exact List.take_of_length_le (by simp)
  rw [e1, e2] at hq
  have tk_of : ∀ {x y : α × Nat}, TL lt x y → TK key x y := fun {x y} h => by
    unfold TL at h
    rw [hlt, hlt] at h
    simp at h
    unfold TK
    omega
  have hr : r.toList.Pairwise (TK key) := by
    rw [List.pairwise_iff_getElem]
    intro i j hi hj hij
    have hj' : j < r.size := by simpa using hj
    have hi' : i < r.size := by simpa using hi
    have := ht i j (Nat.zero_le _) hij (by omega)
    rw [getElem!_pos r i hi', getElem!_pos r j hj'] at this
    simpa using tk_of this
  have : r.toList = s := by
    refine List.Perm.eq_of_pairwise (le := TK key) (fun a b _ _ g1 g2 => ?_) hr h1 (hq.trans (by simpa using h2.symm))
    unfold TK at g1 g2
    omega
  rw [this, h3]
  rfl
theorem swoK {lt : α → α → Bool} (hlt : ∀ x y, lt x y = decide (key x < key y)) : SWO lt := by
  refine ⟨fun x => by rw [hlt]; simp, fun x y z h1 h2 => ?_, fun x y z h1 h2 => ?_⟩ <;> rw [hlt] at * <;> simp at * <;> omega
end
end Go.Proofs.YtecaaimaeaocbaaDoor
