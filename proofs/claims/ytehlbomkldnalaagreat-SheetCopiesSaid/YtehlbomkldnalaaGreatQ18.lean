/- Parts of the proofs of this seat: StabP. Each part says what it proves; no condition beyond those stated there. -/
import Derived.Sort.Lot0

/- The library's stable sort: the plain law. Elements bear tags: their first places. -/
namespace Go.Proofs.YtehlbomkldnalaaGreat
open Go.Sort
section
variable {α : Type} (lt : α → α → Bool)
/-- less, or not greater and earlier -/
def TL (x y : α × Nat) : Prop := lt x.1 y.1 = true ∨ (lt y.1 x.1 = false ∧ x.2 < y.2)
def ltT (x y : α × Nat) : Bool := lt x.1 y.1
variable {lt}
theorem TL.trans (h : SWO lt) {x y z : α × Nat} (h1 : TL lt x y) (h2 : TL lt y z) : TL lt x z := by
  rcases h1 with h1 | ⟨h1, t1⟩ <;> rcases h2 with h2 | ⟨h2, t2⟩
  · exact .inl (h.trans _ _ _ h1 h2)
  · left
    cases hc : lt x.1 z.1
    · rw [h.ntrans _ _ _ hc h2] at h1; cases h1
    · rfl
  · left
    cases hc : lt x.1 z.1
    · rw [h.ntrans _ _ _ h1 hc] at h2; cases h2
    · rfl
  · exact .inr ⟨h.ntrans _ _ _ h2 h1, by omega⟩
theorem SWO.asymm (h : SWO lt) {x y : α} (hl : lt x y = true) : lt y x = false := by
  cases hc : lt y x
  · rfl
  · have := h.trans _ _ _ hl hc; rw [h.irrefl] at this; cases this
theorem TL.irrefl (h : SWO lt) (x : α × Nat) : ¬ TL lt x x := by
  rintro (h1 | ⟨_, h2⟩)
  · rw [h.irrefl] at h1; cases h1
  · omega
/-- an earlier one beside a later one -/
theorem TL.early {x y : α × Nat} (ht : x.2 < y.2) (hl : lt y.1 x.1 = false) : TL lt x y := .inr ⟨hl, ht⟩
theorem TL.late {x y : α × Nat} (hl : lt y.1 x.1 = true) : TL lt y x := .inl hl
theorem TL.early_iff (h : SWO lt) {x y : α × Nat} (hx : TL lt x y) : lt y.1 x.1 = false := by
  rcases hx with h1 | ⟨h1, _⟩
  · exact SWO.asymm h h1
  · exact h1
variable [Inhabited α]
variable (lt)
def TS (a b : Nat) (d : Array (α × Nat)) : Prop := ∀ i j, a ≤ i → i < j → j < b → TL lt d[i]! d[j]!
variable {lt}
/-! insertion -/
theorem ins_inner (h : SWO lt) (a i : Nat) : ∀ (j : Nat) (d : Array (α × Nat)), i < d.size → a ≤ j → j ≤ i →
    (∀ p q, a ≤ p → p < q → q ≤ i → p ≠ j → q ≠ j → TL lt d[p]! d[q]!) → (∀ q, j < q → q ≤ i → TL lt d[j]! d[q]!) → (∀ p, a ≤ p → p < j → d[p]!.2 < d[j]!.2) →
    TS lt a (i + 1) (insInner (ltT lt) a j d)
  | 0, d, hs, ha, hj, h1, h2, h3 => by
    intro p q hp hpq hq
    show TL lt d[p]! d[q]!
    by_cases e : p = 0
    · subst e; exact h2 q hpq (by omega)
    · exact h1 p q hp hpq (by omega) e (by omega)
  | j + 1, d, hs, ha, hj, h1, h2, h3 => by
    unfold insInner
    by_cases hc : (decide (j + 1 > a) && ltT lt d[j + 1]! d[j]!) = true
    · rw [if_pos hc]
      simp only [Bool.and_eq_true, decide_eq_true_eq] at hc
      obtain ⟨hja, hl⟩ := hc
      have e1 : (swp d (j + 1) j)[j]! = d[j + 1]! := swp_right d (j + 1) j (by omega)
      have e2 : (swp d (j + 1) j)[j + 1]! = d[j]! := swp_left d (j + 1) j (by omega) (by omega)
      have e3 : ∀ k, k ≠ j + 1 → k ≠ j → (swp d (j + 1) j)[k]! = d[k]! := fun k h1 h2 => swp_other d (j + 1) j k h1 h2
      refine ins_inner h a i j (swp d (j + 1) j) (by rw [size_swp]; exact hs) (by omega) (by omega) ?_ ?_ ?_
      · intro p q hp hpq hq hpj hqj
        by_cases ep : p = j + 1
        · subst ep
          rw [e2, e3 q (by omega) hqj]
          exact h1 j q (by omega) (by omega) hq (by omega) (by omega)
        · by_cases eq : q = j + 1
          · subst eq
            rw [e2, e3 p ep hpj]
            exact h1 p j hp (by omega) (by omega) (by omega) (by omega)
          · rw [e3 p ep hpj, e3 q eq hqj]
            exact h1 p q hp hpq hq ep eq
      · intro q hq1 hq2
        rw [e1]
        by_cases eq : q = j + 1
        · subst eq; rw [e2]; exact .inl hl
        · rw [e3 q eq (by omega)]; exact h2 q (by omega) hq2
      · intro p hp hpj
        rw [e1, e3 p (by omega) (by omega)]
        exact h3 p hp (by omega)
    · rw [if_neg hc]
      have hl : a ≤ j → TL lt d[j]! d[j + 1]! := fun haj => by
        refine TL.early (h3 j haj (by omega)) ?_
        cases hl : lt d[j + 1]!.1 d[j]!.1
        · rfl
        · exact absurd (by simp only [Bool.and_eq_true, decide_eq_true_eq]; exact ⟨by omega, hl⟩) hc
      intro p q hp hpq hq
      by_cases ep : p = j + 1
      · subst ep; exact h2 q hpq (by omega)
      · by_cases eq : q = j + 1
        · subst eq
          by_cases epj : p = j
          · subst epj; exact hl hp
          · exact (h1 p j hp (by omega) (by omega) (by omega) (by omega)).trans h (hl (by omega))
        · exact h1 p q hp hpq (by omega) ep eq
theorem ins_inner_perm (a : Nat) : ∀ (j : Nat) (d : Array (α × Nat)) (b : Nat), j < b → b ≤ d.size → a ≤ j → PermIn a b d (insInner (ltT lt) a j d)
  | 0, d, b, _, _, _ => permIn_refl d a b
  | j + 1, d, b, hj, hb, ha => by
    unfold insInner
    split
    · rename_i hc
      simp only [Bool.and_eq_true, decide_eq_true_eq] at hc
      exact permIn_trans _ _ _ _ _ (swp_permIn d a b (j + 1) j (by omega) (by omega) (by omega) (by omega) hb) (ins_inner_perm a j _ b (by omega) (by rw [size_swp]; exact hb) (by omega))
    · exact permIn_refl d a b
theorem PermIn.out {a b : Nat} {d d' : Array α} (h : PermIn a b d d') {i : Nat} (hi : i < a ∨ b ≤ i) : d'[i]! = d[i]! := h.2.1 i hi
theorem ins_outer (h : SWO lt) (a b : Nat) : ∀ (n i : Nat) (d : Array (α × Nat)), n = b - i → a ≤ i → i ≤ b → b ≤ d.size → TS lt a i d → (∀ p q, a ≤ p → p < q → i ≤ q → q < b → d[p]!.2 < d[q]!.2) →
    TS lt a b (insOuter (ltT lt) a b i d) ∧ PermIn a b d (insOuter (ltT lt) a b i d)
  | 0, i, d, hn, ha, hi, hb, hs, ht => by
    rw [insOuter, if_neg (by omega)]
    have : i = b := by omega
    subst this
    exact ⟨hs, permIn_refl d a i⟩
  | n + 1, i, d, hn, ha, hi, hb, hs, ht => by
    rw [insOuter, if_pos (by omega)]
    have hp0 := ins_inner_perm (lt := lt) a i d (i + 1) (by omega) (by omega) ha
    have hp := permIn_mono d _ a (i + 1) a b (Nat.le_refl _) (by omega) hb hp0
    have h1 := ins_inner h a i i d (by omega) ha (Nat.le_refl _) (fun p q hp hpq hq hpi hqi => hs p q hp hpq (by omega)) (fun q h1 h2 => by omega) (fun p hp hpi => ht p i hp hpi (Nat.le_refl _) (by omega))
    obtain ⟨h2, h3⟩ := ins_outer h a b n (i + 1) _ (by omega) (by omega) (by omega) (by rw [hp.1]; exact hb) h1 (fun p q hpa hpq hq hqb => by
      rw [PermIn.out hp0 (i := q) (.inr hq)]
      by_cases hpi : i + 1 ≤ p
      · rw [PermIn.out hp0 (i := p) (.inr hpi)]; exact ht p q hpa hpq (by omega) hqb
      · exact permIn_all d _ a (i + 1) (fun x => x.2 < d[q]!.2) (by omega) hp0 (fun k hk1 hk2 => ht k q hk1 (by omega) (by omega) hqb) p hpa (by omega))
    exact ⟨h2, permIn_trans _ _ _ _ _ hp h3⟩
/-- THE LAW of insertionSortCmpFunc -/
theorem ins_sorted (h : SWO lt) {a b : Nat} {d : Array (α × Nat)} (hab : a ≤ b) (hb : b ≤ d.size) (ht : ∀ p q, a ≤ p → p < q → q < b → d[p]!.2 < d[q]!.2) :
    TS lt a b (insertionSort (ltT lt) d a b) ∧ PermIn a b d (insertionSort (ltT lt) d a b) := by
  unfold insertionSort
  by_cases h0 : a = b
  · subst h0
    rw [insOuter, if_neg (by omega)]
    exact ⟨fun i j h1 h2 h3 => by omega, permIn_refl d a a⟩
  · exact ins_outer h a b (b - (a + 1)) (a + 1) d rfl (by omega) (by omega) hb (fun i j h1 h2 h3 => by omega) (fun p q h1 h2 h3 h4 => ht p q h1 h2 h4)
end

/-! runs of exchanges -/
section
variable {β : Type} [Inhabited β]
theorem swp_val (d : Array β) {i j : Nat} (hi : i < d.size) (hj : j < d.size) (k : Nat) : (swp d i j)[k]! = if k = j then d[i]! else if k = i then d[j]! else d[k]! := by
  by_cases h1 : k = j
  · subst h1; rw [if_pos rfl]; exact swp_right d i k hj
  · rw [if_neg h1]
    by_cases h2 : k = i
    · subst h2; rw [if_pos rfl]; exact swp_left d k j hi (by omega)
    · rw [if_neg h2]; exact swp_other d i j k h2 h1
/-- the element at a goes up n places -/
def fwd (d : Array β) (a : Nat) : Nat → Array β
  | 0 => d
  | n + 1 => swp (fwd d a n) (a + n) (a + n + 1)
theorem fwd_size (d : Array β) (a : Nat) : ∀ n, (fwd d a n).size = d.size
  | 0 => rfl
  | n + 1 => by rw [fwd, size_swp, fwd_size]
theorem fwd_val (d : Array β) (a : Nat) : ∀ n, a + n < d.size → ∀ k, (fwd d a n)[k]! = if a ≤ k ∧ k < a + n then d[k + 1]! else if k = a + n then d[a]! else d[k]!
  | 0, h, k => by
    show d[k]! = _
    rw [if_neg (by omega)]
    split
    · rename_i h; rw [h]; rfl
    · rfl
  | n + 1, h, k => by
    rw [fwd, swp_val _ (by rw [fwd_size]; omega) (by rw [fwd_size]; omega)]
    rw [fwd_val d a n (by omega), fwd_val d a n (by omega), fwd_val d a n (by omega)]
    by_cases h1 : k = a + n + 1
    · rw [if_pos h1, if_neg (by omega), if_pos rfl, if_neg (by omega), if_pos (by omega)]
    · rw [if_neg h1]
      by_cases h2 : k = a + n
      · rw [if_pos h2, if_neg (by omega), if_neg (by omega), if_pos (by omega)]; rw [h2]
      · rw [if_neg h2]
        by_cases h3 : a ≤ k ∧ k < a + n
        · rw [if_pos h3, if_pos (by omega)]
        · rw [if_neg h3, if_neg h2, if_neg (by omega), if_neg (by omega)]
theorem fwd_perm (d : Array β) (a b : Nat) (hb : b ≤ d.size) : ∀ n, a + n < b → PermIn a b d (fwd d a n)
  | 0, _ => permIn_refl d a b
  | n + 1, h => permIn_trans _ _ _ _ _ (fwd_perm d a b hb n (by omega)) (swp_permIn _ a b _ _ (by omega) (by omega) (by omega) (by omega) (by rw [fwd_size]; exact hb))
/-- the element at m goes down n places -/
def bwd (d : Array β) (m : Nat) : Nat → Array β
  | 0 => d
  | n + 1 => swp (bwd d m n) (m - n) (m - n - 1)
theorem bwd_size (d : Array β) (m : Nat) : ∀ n, (bwd d m n).size = d.size
  | 0 => rfl
  | n + 1 => by rw [bwd, size_swp, bwd_size]
theorem bwd_val (d : Array β) (m : Nat) (hm : m < d.size) : ∀ n, n ≤ m → ∀ k, (bwd d m n)[k]! = if m - n < k ∧ k ≤ m then d[k - 1]! else if k = m - n then d[m]! else d[k]!
  | 0, h, k => by
    show d[k]! = _
    rw [if_neg (by omega)]
    split
    · rename_i h; rw [h]; rfl
    · rfl
  | n + 1, h, k => by
    rw [bwd, swp_val _ (by rw [bwd_size]; omega) (by rw [bwd_size]; omega)]
    rw [bwd_val d m hm n (by omega), bwd_val d m hm n (by omega), bwd_val d m hm n (by omega)]
    by_cases h1 : k = m - n - 1
    · rw [if_pos h1, if_neg (by omega), if_pos rfl, if_neg (by omega), if_pos (by omega)]
    · rw [if_neg h1]
      by_cases h2 : k = m - n
      · rw [if_pos h2, if_neg (by omega), if_neg (by omega), if_pos (by omega)]; rw [h2]
      · rw [if_neg h2]
        by_cases h3 : m - n < k ∧ k ≤ m
        · rw [if_pos h3, if_pos (by omega)]
        · rw [if_neg h3, if_neg h2, if_neg (by omega), if_neg (by omega)]
theorem bwd_perm (d : Array β) (a b m : Nat) (hb : b ≤ d.size) (hm : m < b) : ∀ n, a + n ≤ m → PermIn a b d (bwd d m n)
  | 0, _ => permIn_refl d a b
  | n + 1, h => permIn_trans _ _ _ _ _ (bwd_perm d a b m hb hm n (by omega)) (swp_permIn _ a b _ _ (by omega) (by omega) (by omega) (by omega) (by rw [bwd_size]; exact hb))
theorem bwd_step (d : Array β) {m p : Nat} (h : p + 1 ≤ m) : swp (bwd d m (m - (p + 1))) (p + 1) p = bwd d m (m - p) := by
  obtain ⟨n, hn⟩ : ∃ n, m - (p + 1) = n := ⟨_, rfl⟩
  rw [hn, show m - p = n + 1 by omega, bwd, show m - n = p + 1 by omega, show p + 1 - 1 = p by omega]
/-- swapRange -/
def swr (d : Array β) (a b : Nat) : Nat → Array β
  | 0 => d
  | n + 1 => swp (swr d a b n) (a + n) (b + n)
theorem swr_size (d : Array β) (a b : Nat) : ∀ n, (swr d a b n).size = d.size
  | 0 => rfl
  | n + 1 => by rw [swr, size_swp, swr_size]
theorem swr_val (d : Array β) (a b : Nat) : ∀ n, a + n ≤ b → b + n ≤ d.size → ∀ k, (swr d a b n)[k]! = if a ≤ k ∧ k < a + n then d[k + (b - a)]! else if b ≤ k ∧ k < b + n then d[k - (b - a)]! else d[k]!
  | 0, h, _, k => by
    show d[k]! = _
    rw [if_neg (by omega), if_neg (by omega)]
  | n + 1, h, h', k => by
    rw [swr, swp_val _ (by rw [swr_size]; omega) (by rw [swr_size]; omega)]
    rw [swr_val d a b n (by omega) (by omega), swr_val d a b n (by omega) (by omega), swr_val d a b n (by omega) (by omega)]
    by_cases h1 : k = b + n
    · rw [if_pos h1, if_neg (by omega), if_neg (by omega), if_neg (by omega), if_pos (by omega)]; congr 1; omega
    · rw [if_neg h1]
      by_cases h2 : k = a + n
      · rw [if_pos h2, if_neg (by omega), if_neg (by omega), if_pos (by omega)]; congr 1; omega
      · rw [if_neg h2]
        by_cases h3 : a ≤ k ∧ k < a + n
        · rw [if_pos h3, if_pos (by omega)]
        · rw [if_neg h3]
          by_cases h4 : b ≤ k ∧ k < b + n
          · rw [if_pos h4, if_neg (by omega), if_pos (by omega)]
          · rw [if_neg h4, if_neg (by omega), if_neg (by omega)]
theorem swr_perm (d : Array β) (a b lo hi : Nat) (hb : hi ≤ d.size) (h1 : lo ≤ a) : ∀ n, a + n ≤ hi → b + n ≤ hi → lo ≤ b → PermIn lo hi d (swr d a b n)
  | 0, _, _, _ => permIn_refl d lo hi
  | n + 1, h, h', h2 => permIn_trans _ _ _ _ _ (swr_perm d a b lo hi hb h1 n (by omega) (by omega) h2) (swp_permIn _ lo hi _ _ (by omega) (by omega) (by omega) (by omega) (by rw [swr_size]; exact hb))
/-- what lies at x when the parts from a and from m change places -/
def rotV (d : Array β) (a m b x : Nat) : β := if a ≤ x ∧ x < a + (b - m) then d[x + (m - a)]! else if a + (b - m) ≤ x ∧ x < b then d[x - (b - m)]! else d[x]!
theorem rot_left (d : Array β) {m i j : Nat} (hij : j < i) (him : i ≤ m) (hs : m + j ≤ d.size) (x : Nat) : rotV (swr d (m - i) m j) (m - (i - j)) m (m + j) x = rotV d (m - i) m (m + j) x := by
  have V := swr_val d (m - i) m j (by omega) (by omega)
  unfold rotV
  rw [V, V, V]
  repeat' split
  all_goals first | rfl | (exfalso; omega) | (congr 1; omega)
theorem rot_right (d : Array β) {m i j : Nat} (hij : i < j) (him : i ≤ m) (hs : m + j ≤ d.size) (x : Nat) : rotV (swr d (m - i) (m + j - i) i) (m - i) m (m + (j - i)) x = rotV d (m - i) m (m + j) x := by
  have V := swr_val d (m - i) (m + j - i) i (by omega) (by omega)
  unfold rotV
  rw [V, V, V]
  repeat' split
  all_goals first | rfl | (exfalso; omega) | (congr 1; omega)
theorem rot_same (d : Array β) {m i : Nat} (him : i ≤ m) (hs : m + i ≤ d.size) (x : Nat) : (swr d (m - i) m i)[x]! = rotV d (m - i) m (m + i) x := by
  rw [swr_val d (m - i) m i (by omega) (by omega)]
  unfold rotV
  repeat' split
  all_goals first | rfl | (exfalso; omega) | (congr 1; omega)
end

/-! merging -/
section
variable {α : Type} [Inhabited α] {lt : α → α → Bool}
/-- two ascending parts, the first one's elements all the earlier ones -/
structure Parts (lt : α → α → Bool) (a m b : Nat) (d : Array (α × Nat)) : Prop where
  left : TS lt a m d
  right : TS lt m b d
  tags : ∀ i j, a ≤ i → i < m → m ≤ j → j < b → d[i]!.2 < d[j]!.2
  am : a ≤ m
  mb : m ≤ b
  size : b ≤ d.size
theorem TS.le {a b : Nat} {d : Array (α × Nat)} (h : TS lt a b d) {i j : Nat} (h1 : a ≤ i) (h2 : i ≤ j) (h3 : j < b) : i = j ∨ TL lt d[i]! d[j]! := by
  rcases Nat.lt_or_ge i j with h4 | h4
  · exact .inr (h i j h1 h4 h3)
  · exact .inl (by omega)
theorem TL.then_le {α : Type} {lt : α → α → Bool} (hS : SWO lt) {x y z : α × Nat} (h : TL lt x y) (k : y = z ∨ TL lt y z) : TL lt x z := by
  rcases k with rfl | k
  · exact h
  · exact h.trans hS k
theorem TL.le_then {α : Type} {lt : α → α → Bool} (hS : SWO lt) {x y z : α × Nat} (k : x = y ∨ TL lt x y) (h : TL lt y z) : TL lt x z := by
  rcases k with rfl | k
  · exact h
  · exact k.trans hS h
theorem at_eq {d : Array (α × Nat)} {i j : Nat} (h : i = j ∨ TL lt d[i]! d[j]!) : d[i]! = d[j]! ∨ TL lt d[i]! d[j]! := by
  rcases h with rfl | h
  · exact .inl rfl
  · exact .inr h
section
variable {a m b : Nat} {d : Array (α × Nat)} (hS : SWO lt) (hP : Parts lt a m b d)
include hS hP
theorem Parts.cross {i j : Nat} (h1 : a ≤ i) (h2 : i < m) (h3 : m ≤ j) (h4 : j < b) : (ltT lt d[j]! d[i]! = false → TL lt d[i]! d[j]!) ∧ (TL lt d[i]! d[j]! → ltT lt d[j]! d[i]! = false) :=
  ⟨fun h => TL.early (hP.tags i j h1 h2 h3 h4) h, fun h => TL.early_iff hS h⟩
theorem one_left {i : Nat} (hm : m = a + 1) (h1 : m ≤ i) (h2 : i ≤ b) (hlo : ∀ t, m ≤ t → t < i → ltT lt d[t]! d[a]! = true) (hhi : ∀ t, i ≤ t → t < b → ltT lt d[t]! d[a]! = false) :
    TS lt a b (fwd d a (i - 1 - a)) := by
  have hz := hP.size
  have V := fwd_val d a (i - 1 - a) (by omega)
  intro p q hp hpq hq
  rw [V, V]
  by_cases h3 : p < i - 1
  · rw [if_pos (by omega)]
    by_cases h4 : q < i - 1
    · rw [if_pos (by omega)]; exact hP.right _ _ (by omega) (by omega) (by omega)
    · rw [if_neg (by omega)]
      by_cases h5 : q = i - 1
      · rw [if_pos (by omega)]; exact TL.late (hlo _ (by omega) (by omega))
      · rw [if_neg (by omega)]; exact hP.right _ _ (by omega) (by omega) (by omega)
  · rw [if_neg (by omega)]
    by_cases h5 : p = i - 1
    · rw [if_pos (by omega), if_neg (by omega), if_neg (by omega)]
      exact (hP.cross hS (by omega) (by omega) (by omega) hq).1 (hhi q (by omega) hq)
    · rw [if_neg (by omega), if_neg (by omega), if_neg (by omega)]
      exact hP.right _ _ (by omega) (by omega) (by omega)
theorem one_right {i : Nat} (hm : b = m + 1) (h1 : a ≤ i) (h2 : i ≤ m) (hlo : ∀ t, a ≤ t → t < i → ltT lt d[m]! d[t]! = false) (hhi : ∀ t, i ≤ t → t < m → ltT lt d[m]! d[t]! = true) :
    TS lt a b (bwd d m (m - i)) := by
  have hz := hP.size
  have V := bwd_val d m (by omega) (m - i) (by omega)
  intro p q hp hpq hq
  rw [V, V]
  by_cases h3 : p < i
  · rw [if_neg (by omega), if_neg (by omega)]
    by_cases h4 : q = i
    · rw [if_neg (by omega), if_pos (by omega)]
      exact (hP.cross hS hp (by omega) (Nat.le_refl _) (by omega)).1 (hlo p hp h3)
    · by_cases h5 : q < i
      · rw [if_neg (by omega), if_neg (by omega)]; exact hP.left _ _ (by omega) (by omega) (by omega)
      · rw [if_pos (by omega)]; exact hP.left _ _ (by omega) (by omega) (by omega)
  · by_cases h4 : p = i
    · rw [if_neg (by omega), if_pos (by omega), if_pos (by omega)]
      exact TL.late (hhi _ (by omega) (by omega))
    · rw [if_pos (by omega), if_pos (by omega)]; exact hP.left _ _ (by omega) (by omega) (by omega)
/-- where the search of 'start' looks -/
theorem probe_mono {n c c' : Nat} (h1 : a ≤ c') (h2 : c' ≤ c) (h3 : c < m) (h4 : m ≤ n - 1 - c) (h5 : n - 1 - c' < b) (hn : c < n) (h : ltT lt d[n - 1 - c']! d[c']! = true) : ltT lt d[n - 1 - c]! d[c]! = true := by
  cases hc : ltT lt d[n - 1 - c]! d[c]!
  · exfalso
    have e1 := (hP.cross hS (by omega : a ≤ c) h3 h4 (by omega)).1 hc
    have e2 : TL lt d[n - 1 - c']! d[c']! := TL.late h
    have e3 := at_eq (hP.left.le h1 h2 h3)
    have e4 := at_eq (hP.right.le (i := n - 1 - c) (j := n - 1 - c') h4 (by omega) h5)
    exact TL.irrefl hS _ ((TL.then_le hS (TL.le_then hS e3 e1) e4).trans hS e2)
  · rfl
/-- THE SPLIT of symMerge: behind the rotation the two halves are merged by themselves -/
theorem split_parts {start mid r0 s0 : Nat} {r : Array (α × Nat)} (hmid : mid = (a + b) / 2) (hs0 : s0 = if mid < m then mid + m - b else a) (hr0 : r0 = if mid < m then mid else m) (h1 : s0 ≤ start) (h2 : start ≤ r0)
    (hlo : s0 < start → ltT lt d[mid + m - start]! d[start - 1]! = false) (hhi : start < r0 → ltT lt d[mid + m - start - 1]! d[start]! = true)
    (hr : ∀ x, r[x]! = rotV d start m (mid + m - start) x) (hrs : r.size = d.size) :
    Parts lt a start mid r ∧ Parts lt mid (mid + m - start) b r ∧ (∀ i j, a ≤ i → i < mid → mid ≤ j → j < b → TL lt r[i]! r[j]!) := by
  have ham := hP.am
  have hmb := hP.mb
  have hz := hP.size
  have F : a ≤ start ∧ start ≤ m ∧ start ≤ mid ∧ m ≤ mid + m - start ∧ mid + m - start ≤ b ∧ mid ≤ mid + m - start ∧ mid ≤ b := by
    split at hs0 <;> split at hr0 <;> omega
  obtain ⟨f1, f2, f3, f4, f5, f6, f7⟩ := F
  -- what lies where
  have vA1 : ∀ x, x < start → r[x]! = d[x]! := fun x h => by rw [hr, rotV, if_neg (by omega), if_neg (by omega)]
  have vB1 : ∀ x, start ≤ x → x < mid → r[x]! = d[x + (m - start)]! := fun x h h' => by rw [hr, rotV, if_pos (by omega)]
  have vA2 : ∀ x, mid ≤ x → x < mid + m - start → r[x]! = d[x - (mid - start)]! := fun x h h' => by
    rw [hr, rotV, if_neg (by omega), if_pos (by omega)]; congr 1; omega
  have vB2 : ∀ x, mid + m - start ≤ x → r[x]! = d[x]! := fun x h => by rw [hr, rotV, if_neg (by omega), if_neg (by omega)]
  refine ⟨⟨?_, ?_, ?_, f1, f3, by omega⟩, ⟨?_, ?_, ?_, f6, f5, by omega⟩, ?_⟩
  · intro i j hi hij hj
    rw [vA1 _ (by omega), vA1 _ hj]; exact hP.left _ _ hi hij (by omega)
  · intro i j hi hij hj
    rw [vB1 _ hi (by omega), vB1 _ (by omega) hj]; exact hP.right _ _ (by omega) (by omega) (by omega)
  · intro i j hi hij hj hj'
    rw [vA1 _ hij, vB1 _ hj hj']; exact hP.tags _ _ hi (by omega) (by omega) (by omega)
  · intro i j hi hij hj
    rw [vA2 _ hi (by omega), vA2 _ (by omega) hj]; exact hP.left _ _ (by omega) (by omega) (by omega)
  · intro i j hi hij hj
    rw [vB2 _ hi, vB2 _ (by omega)]; exact hP.right _ _ (by omega) hij hj
  · intro i j hi hij hj hj'
    rw [vA2 _ hi hij, vB2 _ hj]; exact hP.tags _ _ (by omega) (by omega) (by omega) hj'
  · intro i j hi hi' hj hj'
    by_cases hA1 : i < start
    · rw [vA1 _ hA1]
      by_cases hA2 : j < mid + m - start
      · rw [vA2 _ hj hA2]; exact hP.left _ _ hi (by omega) (by omega)
      · rw [vB2 _ (by omega)]
        have hlt : s0 < start := by
          rcases Nat.lt_or_ge s0 start with h | h
          · exact h
          · split at hs0 <;> omega
        have e1 := (hP.cross hS (i := start - 1) (j := mid + m - start) (by omega) (by omega) (by omega) (by omega)).1 (hlo hlt)
        have e2 := at_eq (hP.left.le (i := i) (j := start - 1) hi (by omega) (by omega))
        have e3 := at_eq (hP.right.le (i := mid + m - start) (j := j) (by omega) (by omega) hj')
        exact TL.then_le hS (TL.le_then hS e2 e1) e3
    · rw [vB1 _ (by omega) hi']
      by_cases hA2 : j < mid + m - start
      · rw [vA2 _ hj hA2]
        have hlt : start < r0 := by
          rcases Nat.lt_or_ge start r0 with h | h
          · exact h
          · split at hr0 <;> omega
        have e1 : TL lt d[mid + m - start - 1]! d[start]! := TL.late (hhi hlt)
        have e2 := at_eq (hP.right.le (i := i + (m - start)) (j := mid + m - start - 1) (by omega) (by omega) (by omega))
        have e3 := at_eq (hP.left.le (i := start) (j := j - (mid - start)) (by omega) (by omega) (by omega))
        exact TL.then_le hS (TL.le_then hS e2 e1) e3
      · rw [vB2 _ (by omega)]; exact hP.right _ _ (by omega) (by omega) hj'
end
/-- .. and then the whole is ascending -/
theorem join_sorted {a mid b : Nat} {r r' r'' : Array (α × Nat)} (hb : b ≤ r.size) (hmid : mid ≤ b) (ham : a ≤ mid) (hc : ∀ i j, a ≤ i → i < mid → mid ≤ j → j < b → TL lt r[i]! r[j]!)
    (h1 : PermIn a mid r r') (s1 : TS lt a mid r') (h2 : PermIn mid b r' r'') (s2 : TS lt mid b r'') : TS lt a b r'' ∧ PermIn a b r r'' := by
  refine ⟨fun i j hi hij hj => ?_, permIn_trans _ _ _ _ _ (permIn_mono _ _ a mid a b (Nat.le_refl _) hmid hb h1) (permIn_mono _ _ mid b a b ham (Nat.le_refl _) (by rw [h1.1]; exact hb) h2)⟩
  by_cases h3 : j < mid
  · rw [h2.2.1 i (.inl (by omega)), h2.2.1 j (.inl h3)]; exact s1 i j hi hij h3
  · by_cases h4 : mid ≤ i
    · exact s2 i j h4 hij hj
    · rw [h2.2.1 i (.inl (by omega))]
      refine permIn_all r r' a mid (fun x => TL lt x r''[j]!) (by omega) h1 (fun k hk1 hk2 => ?_) i hi (by omega)
      refine permIn_all r' r'' mid b (fun y => TL lt r[k]! y) (by rw [h1.1]; exact hb) h2 (fun q hq1 hq2 => ?_) j (by omega) hj
      rw [h1.2.1 q (.inr hq1)]
      exact hc k q hk1 hk2 hq1 hq2
/-! blocks -/
/-- each block of bs elements is ascending, from lo to hi -/
def BSt (lt : α → α → Bool) (bs lo hi : Nat) (d : Array (α × Nat)) : Prop := ∀ i j, lo ≤ i → i < j → j < hi → i / bs = j / bs → TL lt d[i]! d[j]!
/-- each element has its tag in its block -/
def BTg (bs n : Nat) (d : Array (α × Nat)) : Prop := ∀ i, i < n → d[i]!.2 / bs = i / bs
theorem div_block {bs k i : Nat} (h1 : k * bs ≤ i) (h2 : i < k * bs + bs) : i / bs = k := by
  have hb : 0 < bs := by omega
  rw [Nat.div_eq_iff hb]
  rw [Nat.mul_comm] at h1 h2
  rw [Nat.mul_comm]
  omega
theorem lt_block {bs c i : Nat} (h : i < c * bs) : i / bs < c := by
  have hb : 0 < bs := by rcases Nat.eq_zero_or_pos bs with h0 | h0; · rw [h0, Nat.mul_zero] at h; omega
                         · exact h0
  exact (Nat.div_lt_iff_lt_mul hb).2 h
/-- one more block is ascending -/
theorem BSt.step {bs c a b : Nat} {d r : Array (α × Nat)} (ha : a = c * bs) (_hab : a ≤ b) (hb : b ≤ a + bs) (h : BSt lt bs 0 a d) (hp : PermIn a b d r) (ht : TS lt a b r) : BSt lt bs 0 b r := by
  intro i j h1 h2 h3 h4
  by_cases h5 : j < a
  · rw [hp.2.1 i (.inl (by omega)), hp.2.1 j (.inl h5)]; exact h i j h1 h2 h5 h4
  · by_cases h6 : a ≤ i
    · exact ht i j h6 h2 h3
    · have e1 : i / bs < c := lt_block (by omega)
      have e2 : j / bs = c := div_block (by omega) (by omega)
      omega
theorem BTg.step {bs c a b n : Nat} {d r : Array (α × Nat)} (ha : a = c * bs) (hb : b ≤ a + bs) (hbn : b ≤ n) (hn : n ≤ d.size) (h : BTg bs n d) (hp : PermIn a b d r) : BTg bs n r := by
  intro i hi
  by_cases h1 : a ≤ i ∧ i < b
  · rw [div_block (bs := bs) (k := c) (i := i) (by omega) (by omega)]
    exact permIn_all d r a b (fun x => x.2 / bs = c) (by omega) hp (fun k hk1 hk2 => by rw [h k (by omega)]; exact div_block (by omega) (by omega)) i h1.1 h1.2
  · rw [hp.2.1 i (by omega)]; exact h i hi
theorem parts_of {bs c a e n : Nat} {d : Array (α × Nat)} (ha : a = c * (2 * bs)) (h1 : a + bs < e) (h2 : e ≤ a + 2 * bs) (hen : e ≤ n) (hn : n ≤ d.size) (h : ∀ i j, a ≤ i → i < j → j < n → i / bs = j / bs → TL lt d[i]! d[j]!) (ht : ∀ i, a ≤ i → i < n → d[i]!.2 / bs = i / bs) : Parts lt a (a + bs) e d := by
  have ha' : a = (2 * c) * bs := by rw [ha, Nat.mul_comm 2 bs, ← Nat.mul_assoc, Nat.mul_comm (c * bs) 2, Nat.mul_assoc]
  have hm' : (2 * c + 1) * bs = a + bs := by rw [Nat.add_mul, ← ha', Nat.one_mul]
  have L : ∀ i, a ≤ i → i < a + bs → i / bs = 2 * c := fun i h3 h4 => div_block (by omega) (by omega)
  have R : ∀ i, a + bs ≤ i → i < e → i / bs = 2 * c + 1 := fun i h3 h4 => div_block (by omega) (by omega)
  refine ⟨fun i j h3 h4 h5 => h i j h3 h4 (by omega) (by rw [L i h3 (by omega), L j (by omega) h5]), fun i j h3 h4 h5 => h i j (by omega) h4 (by omega) (by rw [R i h3 (by omega), R j (by omega) h5]), fun i j h3 h4 h5 h6 => ?_, by omega, by omega, by omega⟩
  have e1 := ht i h3 (by omega)
  have e2 := ht j (by omega) (by omega)
  rw [L i h3 h4] at e1
  rw [R j h5 h6] at e2
  rcases Nat.lt_or_ge d[i]!.2 d[j]!.2 with h7 | h7
  · exact h7
  · have := Nat.div_le_div_right (c := bs) h7
    omega
theorem BTg.half {bs n : Nat} {d : Array (α × Nat)} (h : BTg bs n d) : BTg (2 * bs) n d := fun i hi => by
  rw [Nat.mul_comm, ← Nat.div_div_eq_div_mul, ← Nat.div_div_eq_div_mul, h i hi]
theorem BTg.one {n : Nat} {d : Array (α × Nat)} (h : ∀ i, i < n → d[i]!.2 = i) (bs : Nat) : BTg bs n d := fun i hi => by rw [h i hi]
/-- the last blocks -/
theorem BSt.rest {bs c a n : Nat} {d : Array (α × Nat)} (ha : a = c * (2 * bs)) (h1 : n ≤ a + bs) (h : BSt lt (2 * bs) 0 a d) (h2 : ∀ i j, a ≤ i → i < j → j < n → i / bs = j / bs → TL lt d[i]! d[j]!) : BSt lt (2 * bs) 0 n d := by
  have ha' : a = (2 * c) * bs := by rw [ha, Nat.mul_comm 2 bs, ← Nat.mul_assoc, Nat.mul_comm (c * bs) 2, Nat.mul_assoc]
  intro i j h3 h4 h5 h6
  by_cases h7 : j < a
  · exact h i j h3 h4 h7 h6
  · by_cases h8 : a ≤ i
    · exact h2 i j h8 h4 h5 (by rw [div_block (bs := bs) (k := 2 * c) (i := i) (by omega) (by omega), div_block (bs := bs) (k := 2 * c) (i := j) (by omega) (by omega)])
    · have e1 : i / (2 * bs) < c := lt_block (by omega)
      have e2 : j / (2 * bs) = c := div_block (by omega) (by omega)
      omega
theorem BSt.all {bs n : Nat} {d : Array (α × Nat)} (h : BSt lt bs 0 n d) (hb : n ≤ bs) : TS lt 0 n d := fun i j h1 h2 h3 =>
  h i j h1 h2 h3 (by rw [Nat.div_eq_of_lt (by omega), Nat.div_eq_of_lt (by omega)])
end
end Go.Proofs.YtehlbomkldnalaaGreat
