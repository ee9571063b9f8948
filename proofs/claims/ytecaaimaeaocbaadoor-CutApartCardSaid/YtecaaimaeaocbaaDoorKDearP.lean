/- The dearest pattern: the plain law of the table. -/
import Derived.Test.YtecaaimaeaocbaaDoorKP
namespace Go.Proofs.YtecaaimaeaocbaaDoor
/-- the greatest worth with at most k pieces of one kind, in a room -/
def topK (b : List Int) (wd : Nat) (p : Int) (r : Nat) : Nat → Int
  | 0 => b.getD r 0
  | k + 1 => if (k + 1) * wd ≤ r then max (topK b wd p r k) (b.getD (r - (k + 1) * wd) 0 + (k + 1 : Nat) * p) else topK b wd p r k
def rowK (b : List Int) (wd : Nat) (p : Int) (cnt : Nat) : List Int := (List.range b.length).map fun r => topK b wd p r cnt
/-- the table behind all asks -/
def bestL (K : Int) : List Ask → List Int → List Int → List Int
  | [], _, b => b
  | _ :: _, [], b => b
  | a :: l, p :: ps, b => bestL K l ps (rowK b (a.len + K).toNat p a.cnt.toNat)
theorem bestL_step {K : Int} {l : List Ask} {ps b : List Int} {i : Nat} {a : Ask} {p : Int} (ha : l[i]? = some a) (hp : ps[i]? = some p) : bestL K (l.drop i) (ps.drop i) b = bestL K (l.drop (i + 1)) (ps.drop (i + 1)) (rowK b (a.len + K).toNat p a.cnt.toNat) := by
  obtain ⟨h1, h2⟩ := List.getElem?_eq_some_iff.1 ha
  obtain ⟨h3, h4⟩ := List.getElem?_eq_some_iff.1 hp
  rw [List.drop_eq_getElem_cons h1, List.drop_eq_getElem_cons h3, h2, h4]; rfl
theorem bestL_end {K : Int} {l : List Ask} {ps b : List Int} : bestL K (l.drop l.length) (ps.drop l.length) b = b := by
  rw [List.drop_length]
  cases ps.drop l.length <;> rfl
theorem rowK_len (b : List Int) (wd : Nat) (p : Int) (cnt : Nat) : (rowK b wd p cnt).length = b.length := by simp [rowK]
theorem rowK_get {b : List Int} {wd : Nat} {p : Int} {cnt r : Nat} (h : r < b.length) : (rowK b wd p cnt)[r]? = some (topK b wd p r cnt) := by simp [rowK, h]
/-- where the next piece has no room, no more have -/
theorem topK_stop {b : List Int} {wd : Nat} {p : Int} {r k : Nat} (h : r < (k + 1) * wd) : ∀ {m}, k ≤ m → topK b wd p r m = topK b wd p r k
  | 0, hm => by obtain rfl : k = 0 := by omega
                rfl
  | m + 1, hm => by
    rcases Nat.lt_or_ge k (m + 1) with h1 | h1
    · have h2 : (k + 1) * wd ≤ (m + 1) * wd := Nat.mul_le_mul_right _ (by omega)
      rw [topK, if_neg (by omega)]
      exact topK_stop h (by omega)
    · obtain rfl : k = m + 1 := by omega
      rfl
theorem topK_more {b : List Int} {wd : Nat} {p : Int} {r k : Nat} (h : (k + 1) * wd ≤ r) : topK b wd p r (k + 1) = max (topK b wd p r k) (b.getD (r - (k + 1) * wd) 0 + (k + 1 : Nat) * p) := by rw [topK, if_pos h]
def Low (b : List Int) (M : Int) : Prop := ∀ (q : Nat) v, b[q]? = some v → 0 ≤ v ∧ v ≤ M
theorem Low.getD_ {b : List Int} {M : Int} (h : Low b M) (hM : 0 ≤ M) (q : Nat) : 0 ≤ b.getD q 0 ∧ b.getD q 0 ≤ M := by
  rw [List.getD_eq_getElem?_getD]
  cases hq : b[q]? with
  | none => exact ⟨Int.le_refl _, hM⟩
  | some v => exact h q v hq
theorem topK_low {b : List Int} {wd : Nat} {p M : Int} {r : Nat} (h : Low b M) (hM : 0 ≤ M) (hp : 0 ≤ p ∧ p ≤ 1000000) : ∀ k : Nat, 0 ≤ topK b wd p r k ∧ topK b wd p r k ≤ M + k * 1000000
  | 0 => by have := h.getD_ hM r; unfold topK; omega
  | k + 1 => by
    have ih := topK_low h hM hp k (r := r) (wd := wd)
    unfold topK
    split
    · have h1 := h.getD_ hM (r - (k + 1) * wd)
      have h2 : 0 ≤ ((k + 1 : Nat) : Int) * p := Int.mul_nonneg (by omega) hp.1
      have h3 : ((k + 1 : Nat) : Int) * p ≤ ((k + 1 : Nat) : Int) * 1000000 := Int.mul_le_mul_of_nonneg_left hp.2 (by omega)
      omega
    · omega
theorem rowK_low {b : List Int} {wd : Nat} {p M : Int} {cnt : Nat} (h : Low b M) (hM : 0 ≤ M) (hp : 0 ≤ p ∧ p ≤ 1000000) (hc : cnt ≤ 50) : Low (rowK b wd p cnt) (M + 50000000) := fun q v hv => by
  have hq : q < b.length := by rw [← rowK_len b wd p cnt]; exact (List.getElem?_eq_some_iff.1 hv).1
  rw [rowK_get hq] at hv
  injection hv with hv
  have := topK_low (r := q) (wd := wd) h hM hp cnt
  omega
theorem low_zero (n : Nat) : Low (List.replicate n 0) 0 := fun q v hv => by
  rw [List.getElem?_replicate] at hv
  split at hv
  · injection hv with hv; omega
  · cases hv
def dearF (L K : Int) (l : List Ask) (ps : List Int) : Int := (bestL K l ps (List.replicate ((L + K).toNat + 1) 0)).getD (L + K).toNat 0
/-- a table that is as far as room r -/
def RowTo (b : List Int) (wd : Nat) (p : Int) (cnt r : Nat) (N : List Int) : Prop := ∀ (q : Nat) v, N[q]? = some v → v = if q < r then topK b wd p q cnt else b.getD q 0
/-- .. and at room r as far as k pieces -/
def RowAtK (b : List Int) (wd : Nat) (p : Int) (cnt r k : Nat) (N : List Int) : Prop := ∀ (q : Nat) v, N[q]? = some v → v = if q < r then topK b wd p q cnt else if q = r then topK b wd p r k else b.getD q 0
section
variable {b N : List Int} {wd cnt r k : Nat} {p : Int}
theorem RowTo.start (hN : N = b) : RowTo b wd p cnt 0 N := fun q v hv => by
  subst hN
  rw [if_neg (by omega), List.getD_eq_getElem?_getD, hv]; rfl
theorem RowTo.at_ (h : RowTo b wd p cnt r N) : RowAtK b wd p cnt r 0 N := fun q v hv => by
  rw [h q v hv]
  by_cases h1 : q < r
  · rw [if_pos h1, if_pos h1]
  · rw [if_neg h1, if_neg h1]
    by_cases h2 : q = r
    · rw [if_pos h2, h2]; rfl
    · rw [if_neg h2]
theorem RowAtK.set (h : RowAtK b wd p cnt r k N) {v : Int} (hv : v = topK b wd p r (k + 1)) : RowAtK b wd p cnt r (k + 1) (N.set r v) := fun q u hu => by
  by_cases h1 : r = q
  · subst h1
    have hr : r < N.length := by have := (List.getElem?_eq_some_iff.1 hu).1; simpa using this
    rw [List.getElem?_set_self hr] at hu
    injection hu with hu
    rw [if_neg (by omega), if_pos rfl, ← hu, hv]
  · rw [List.getElem?_set_ne h1] at hu
    rw [h q u hu]
    by_cases h2 : q < r
    · rw [if_pos h2, if_pos h2]
    · rw [if_neg h2, if_neg h2, if_neg (by omega), if_neg (by omega)]
theorem RowAtK.done (h : RowAtK b wd p cnt r k N) (hk : topK b wd p r cnt = topK b wd p r k) : RowTo b wd p cnt (r + 1) N := fun q u hu => by
  rw [h q u hu]
  by_cases h1 : q < r
  · rw [if_pos h1, if_pos (by omega)]
  · rw [if_neg h1]
    by_cases h2 : q = r
    · rw [if_pos h2, if_pos (by omega), h2, hk]
    · rw [if_neg h2, if_neg (by omega)]
theorem RowTo.all (h : RowTo b wd p cnt r N) (hl : N.length = b.length) (hr : r = b.length) : N = rowK b wd p cnt := List.ext_getElem? fun q => by
  rcases Nat.lt_or_ge q b.length with h1 | h1
  · rw [rowK_get h1, List.getElem?_eq_getElem (by omega)]
    congr 1
    have := h q _ (List.getElem?_eq_getElem (by omega))
    rw [if_pos (by omega)] at this
    exact this
  · rw [List.getElem?_eq_none (by omega), List.getElem?_eq_none (by rw [rowK_len]; exact h1)]
end
end Go.Proofs.YtecaaimaeaocbaaDoor
