/- Open minutes: the plain law. -/
import Derived.Test.YtcpnfcnobnjhdaaRefNext
namespace Go.Proofs.Ytcpnfcnobnjhdaa
theorem lb_le (l : List Int) (x : Int) : lbN l x ≤ l.length := List.countP_le_length
theorem lb_mono (l : List Int) {x y : Int} (h : x ≤ y) : lbN l x ≤ lbN l y := List.countP_mono_left fun z _ hz => by simp at hz ⊢; omega
/-- the list without its first -/
theorem asc_tail {y : Int} {l : List Int} (h : Asc (y :: l)) : Asc l ∧ ∀ z ∈ l, y < z :=
  ⟨fun i j a b hij ha hb => h (i + 1) (j + 1) a b (by omega) (by simpa using ha) (by simpa using hb), fun z hz => by
    obtain ⟨j, hj⟩ := List.getElem?_of_mem hz
    exact h 0 (j + 1) y z (by omega) rfl (by simpa using hj)⟩
theorem lb_succ : ∀ {l : List Int} (_ : Asc l) (x : Int), (lbN l (x + 1) : Int) = lbN l x + (if hasB l x then 1 else 0)
  | [], _, x => rfl
  | y :: l, h, x => by
    obtain ⟨h1, h2⟩ := asc_tail h
    have ih := lb_succ h1 x
    unfold lbN hasB at ih ⊢
    rw [List.countP_cons, List.countP_cons, List.contains_cons]
    by_cases hxy : x = y
    · have hn : l.contains x = false := by
        rw [← Bool.not_eq_true, List.contains_iff_mem]
        intro hm
        have := h2 x hm
        omega
      rw [hn] at ih
      have hb : (x == y) = true := by simpa using hxy
      have e1 : decide (y < x + 1) = true := by simp; omega
      have e2 : decide (y < x) = false := by simp; omega
      rw [hn, hb, e1, e2]
      simp at ih ⊢
      omega
    · have hb : (x == y) = false := by simpa using hxy
      have e : decide (y < x + 1) = decide (y < x) := by
        rw [Bool.eq_iff_iff]; simp; omega
      rw [hb, e, Bool.false_or]
      split at ih <;> simp_all <;> split <;> omega
/-- the open minutes of day d before its minute a -/
def dayO (p : Shop) (d a : Int) : Int := if hasB p.hol d then 0 else max 0 (min a p.cl - p.op)
/-- the open minutes before a time -/
def oB (p : Shop) (t : Int) : Int := (t / 1440 - lbN p.hol (t / 1440)) * (p.cl - p.op) + dayO p (t / 1440) (t % 1440)
theorem mul_sub1 (x w : Int) : (x + 1) * w = x * w + w := by rw [Int.add_mul, Int.one_mul]
/-- within a day, its end included -/
theorem oB_day {p : Shop} (hv : VShop p) {d a : Int} (h0 : 0 ≤ a) (h1 : a ≤ 1440) : oB p (1440 * d + a) = oB p (1440 * d) + dayO p d a := by
  have v1 := hv.op0
  have v2 := hv.opcl
  have v3 := hv.cl
  have e0 : (1440 * d) / 1440 = d := by omega
  have e0' : (1440 * d) % 1440 = 0 := by omega
  have z : dayO p d 0 = 0 := by unfold dayO; split <;> omega
  by_cases h : a = 1440
  · subst h
    have e1 : (1440 * d + 1440) / 1440 = d + 1 := by omega
    have e2 : (1440 * d + 1440) % 1440 = 0 := by omega
    have z' : dayO p (d + 1) 0 = 0 := by unfold dayO; split <;> omega
    unfold oB
    rw [e0, e0', e1, e2, z, z', lb_succ hv.asc d]
    unfold dayO
    cases hh : hasB p.hol d
    · simp only [if_neg Bool.false_ne_true]
      rw [show d + 1 - ((lbN p.hol d : Int) + 0) = d - lbN p.hol d + 1 by omega, mul_sub1]
      omega
    · simp only [if_true]
      rw [show d + 1 - ((lbN p.hol d : Int) + 1) = d - lbN p.hol d by omega]
      omega
  · have e1 : (1440 * d + a) / 1440 = d := by omega
    have e2 : (1440 * d + a) % 1440 = a := by omega
    unfold oB
    rw [e0, e0', e1, e2, z]
    omega
def isO (p : Shop) (t : Int) : Int := if hasB p.hol (t / 1440) = false ∧ p.op ≤ t % 1440 ∧ t % 1440 < p.cl then 1 else 0
theorem oB_succ {p : Shop} (hv : VShop p) (t : Int) : oB p (t + 1) = oB p t + isO p t := by
  have v1 := hv.op0
  have v2 := hv.opcl
  have v3 := hv.cl
  have e : t = 1440 * (t / 1440) + t % 1440 := by omega
  have h1 := oB_day hv (d := t / 1440) (a := t % 1440) (by omega) (by omega)
  have h2 := oB_day hv (d := t / 1440) (a := t % 1440 + 1) (by omega) (by omega)
  rw [← e] at h1
  rw [show 1440 * (t / 1440) + (t % 1440 + 1) = t + 1 by omega] at h2
  rw [h1, h2]
  unfold dayO isO
  cases hh : hasB p.hol (t / 1440)
  · simp only [if_neg Bool.false_ne_true, true_and]
    split <;> omega
  · simp
theorem isO_01 (p : Shop) (t : Int) : 0 ≤ isO p t ∧ isO p t ≤ 1 := by unfold isO; split <;> omega
theorem oB_le {p : Shop} (hv : VShop p) (t : Int) (n : Nat) : oB p t ≤ oB p (t + n) ∧ oB p (t + n) ≤ oB p t + n := by
  induction n with
  | zero => simp
  | succ n ih =>
    have := oB_succ hv (t + n)
    have h1 := isO_01 p (t + n)
    rw [show t + ((n + 1 : Nat) : Int) = t + n + 1 by omega, this]
    omega
theorem oB_mono {p : Shop} (hv : VShop p) {t u : Int} (h : t ≤ u) : oB p t ≤ oB p u ∧ oB p u ≤ oB p t + (u - t) := by
  have := oB_le hv t (u - t).toNat
  rw [show t + ((u - t).toNat : Int) = u by omega] at this
  omega
theorem oB_zero {p : Shop} (hv : VShop p) : oB p 0 = 0 := by
  have v1 := hv.op0
  have v2 := hv.opcl
  have h0 : lbN p.hol 0 = 0 := lb_of (Nat.zero_le _) (fun j y _ h => by omega) (fun j y hy _ => (hv.hol j y hy).1)
  unfold oB dayO
  simp [h0]
  intro _
  omega
theorem oB_pos {p : Shop} (hv : VShop p) {t : Int} (h : 0 ≤ t) : 0 ≤ oB p t ∧ oB p t ≤ t := by
  have := oB_mono hv h
  rw [oB_zero hv] at this
  omega
/-- far enough: as many open minutes as one likes -/
theorem oB_far {p : Shop} (hv : VShop p) {want : Int} (hw : 0 ≤ want) : want ≤ oB p ((want / (p.cl - p.op) + p.hol.length + 2) * 1440) := by
  have v1 := hv.op0
  have v2 := hv.opcl
  have v3 := hv.cl
  generalize hW : p.cl - p.op = W
  have hWp : 0 < W := by omega
  have hq : 0 ≤ want / W := Int.ediv_nonneg hw (by omega)
  have hm : W * (want / W) + want % W = want := Int.mul_ediv_add_emod want W
  have hm2 := Int.emod_lt_of_pos want hWp
  generalize want / W = q at *
  have e : (q + p.hol.length + 2) * 1440 / 1440 = q + p.hol.length + 2 := by omega
  have e' : (q + p.hol.length + 2) * 1440 % 1440 = 0 := by omega
  unfold oB
  rw [e, e', hW]
  have hl := lb_le p.hol (q + p.hol.length + 2)
  have hd : 0 ≤ dayO p (q + p.hol.length + 2) 0 := by unfold dayO; split <;> omega
  have h1 : (q + 2) * W ≤ (q + p.hol.length + 2 - (lbN p.hol (q + p.hol.length + 2) : Int)) * W := Int.mul_le_mul_of_nonneg_right (by omega) (by omega)
  have h2 : (q + 2) * W = W * q + 2 * W := by rw [Int.add_mul, Int.mul_comm q W]
  omega

def IsAfter (p : Shop) (t m r : Int) : Prop := oB p t + m ≤ oB p r ∧ ∀ r', r' < r → oB p r' < oB p t + m
theorem IsAfter.unique {p : Shop} {t m r s : Int} (h : IsAfter p t m r) (k : IsAfter p t m s) : r = s := by
  rcases Int.lt_trichotomy r s with e | e | e
  · have := k.2 r e; have := h.1; omega
  · exact e
  · have := h.2 s e; have := k.1; omega
theorem after_least {p : Shop} (hv : VShop p) {t : Int} {want : Int} (h : oB p t < want) : ∀ n : Nat, want ≤ oB p (t + n) → ∃ r, t < r ∧ r ≤ t + n ∧ want ≤ oB p r ∧ ∀ r', r' < r → oB p r' < want
  | 0, h2 => by simp at h2; omega
  | n + 1, h2 => by
    by_cases h3 : want ≤ oB p (t + n)
    · obtain ⟨r, a, b, c⟩ := after_least hv h n h3
      exact ⟨r, a, by omega, c⟩
    · exact ⟨t + (n + 1 : Nat), by omega, by omega, h2, fun r' hr => by
        have := (oB_mono hv (t := r') (u := t + n) (by omega)).1
        omega⟩
theorem after_ex {p : Shop} (hv : VShop p) {t m : Int} (ht : 0 ≤ t) (hm : 1 ≤ m) : ∃ r, t < r ∧ r ≤ ((oB p t + m) / (p.cl - p.op) + p.hol.length + 2) * 1440 ∧ IsAfter p t m r := by
  have h0 := oB_pos hv ht
  have hf := oB_far hv (want := oB p t + m) (by omega)
  generalize hH : ((oB p t + m) / (p.cl - p.op) + p.hol.length + 2) * 1440 = H at *
  have hlt : t < H := by
    rcases Int.lt_or_le t H with h | h
    · exact h
    · have := (oB_mono hv h).1; omega
  obtain ⟨r, a, b, c, d⟩ := after_least hv (t := t) (want := oB p t + m) (by omega) (H - t).toNat (by rw [show t + ((H - t).toNat : Int) = H by omega]; exact hf)
  exact ⟨r, a, by omega, c, d⟩
open Classical in
noncomputable def afterF (p : Shop) (t m : Int) : Int := if m = 0 then t else if h : ∃ r, IsAfter p t m r then h.choose else 0
theorem after_eq {p : Shop} {t m r : Int} (hm : m ≠ 0) (h : IsAfter p t m r) : afterF p t m = r := by
  unfold afterF
  rw [if_neg hm, dif_pos ⟨r, h⟩]
  exact IsAfter.unique (Exists.choose_spec ⟨r, h⟩) h
theorem after_zero (p : Shop) (t : Int) : afterF p t 0 = t := by unfold afterF; rw [if_pos rfl]
theorem after_is {p : Shop} (hv : VShop p) {t m : Int} (ht : 0 ≤ t) (hm : 1 ≤ m) : IsAfter p t m (afterF p t m) ∧ t < afterF p t m ∧ afterF p t m ≤ ((oB p t + m) / (p.cl - p.op) + p.hol.length + 2) * 1440 := by
  obtain ⟨r, a, b, c⟩ := after_ex hv ht hm
  rw [after_eq (by omega) c]
  exact ⟨c, a, b⟩
/-- how far the search begins -/
theorem far_bd {p : Shop} (hv : VShop p) {t m : Int} (ht : 0 ≤ t) (hm : 0 ≤ m) (hm' : m ≤ 1000000000) : ((oB p t + m) / (p.cl - p.op) + p.hol.length + 2) * 1440 ≤ t + m * 1440 + 1440 * 405 ∧ 0 ≤ (oB p t + m) / (p.cl - p.op) := by
  have v1 := hv.op0
  have v2 := hv.opcl
  have v3 := hv.cl
  have v4 := hv.holn
  generalize hW : p.cl - p.op = W
  have hWp : 0 < W := by omega
  have h0 := oB_pos hv ht
  have hq : 0 ≤ (oB p t + m) / W := Int.ediv_nonneg (by omega) (by omega)
  refine ⟨?_, hq⟩
  -- the open minutes before t are at most (t / 1440 + 1) days
  have hb : oB p t ≤ (t / 1440 + 1) * W := by
    unfold oB
    rw [hW, mul_sub1]
    have h1 : (t / 1440 - (lbN p.hol (t / 1440) : Int)) * W ≤ (t / 1440) * W := Int.mul_le_mul_of_nonneg_right (by omega) (by omega)
    have h2 : dayO p (t / 1440) (t % 1440) ≤ W := by unfold dayO; split <;> omega
    omega
  have hq2 : (oB p t + m) / W ≤ t / 1440 + 1 + m := by
    have h3 : oB p t + m ≤ (t / 1440 + 1 + m) * W := by
      rw [Int.add_mul]
      have : m * 1 ≤ m * W := Int.mul_le_mul_of_nonneg_left (by omega) hm
      omega
    have h4 := Int.ediv_le_ediv hWp h3
    rwa [Int.mul_ediv_cancel _ (by omega : W ≠ 0)] at h4
  omega
/-- what opened of the specification says of a day -/
def opnd (p : Shop) (d f t : Int) : Int := if hasB p.hol d then 0 else max 0 (min t (1440 * d + p.cl) - max f (1440 * d + p.op))
theorem opnd_eq {p : Shop} (hv : VShop p) {d f t : Int} (h1 : f ≤ 1440 * d + 1440) (h2 : 1440 * d ≤ t) (h3 : f ≤ t) : opnd p d f t = oB p (min t (1440 * d + 1440)) - oB p (max f (1440 * d)) := by
  have v1 := hv.op0
  have v2 := hv.opcl
  have v3 := hv.cl
  have a1 := oB_day hv (d := d) (a := min t (1440 * d + 1440) - 1440 * d) (by omega) (by omega)
  have a2 := oB_day hv (d := d) (a := max f (1440 * d) - 1440 * d) (by omega) (by omega)
  rw [show 1440 * d + (min t (1440 * d + 1440) - 1440 * d) = min t (1440 * d + 1440) by omega] at a1
  rw [show 1440 * d + (max f (1440 * d) - 1440 * d) = max f (1440 * d) by omega] at a2
  rw [a1, a2]
  unfold opnd dayO
  cases hasB p.hol d
  · simp only [if_neg Bool.false_ne_true]
    omega
  · simp
/-- the day in which it ends -/
theorem after_day {p : Shop} (hv : VShop p) {t m d k : Int} (hk : 1 ≤ k) (h1 : t ≤ 1440 * d + 1440) (hw : oB p t + m = oB p (max t (1440 * d)) + k) (hn : k ≤ opnd p d t (1440 * (d + 1))) :
    IsAfter p t m (max t (1440 * d + p.op) + k) := by
  have v1 := hv.op0
  have v2 := hv.opcl
  have v3 := hv.cl
  unfold opnd at hn
  cases hh : hasB p.hol d
  · rw [hh, if_neg Bool.false_ne_true] at hn
    have a0 := oB_day hv (d := d) (a := max t (1440 * d) - 1440 * d) (by omega) (by omega)
    have a1 := oB_day hv (d := d) (a := max t (1440 * d + p.op) + k - 1440 * d) (by omega) (by omega)
    have a2 := oB_day hv (d := d) (a := max t (1440 * d + p.op) + k - 1 - 1440 * d) (by omega) (by omega)
    rw [show 1440 * d + (max t (1440 * d) - 1440 * d) = max t (1440 * d) by omega] at a0
    rw [show 1440 * d + (max t (1440 * d + p.op) + k - 1440 * d) = max t (1440 * d + p.op) + k by omega] at a1
    rw [show 1440 * d + (max t (1440 * d + p.op) + k - 1 - 1440 * d) = max t (1440 * d + p.op) + k - 1 by omega] at a2
    unfold dayO at a0 a1 a2
    rw [hh, if_neg Bool.false_ne_true] at a0 a1 a2
    refine ⟨by omega, fun r' hr => ?_⟩
    have := (oB_mono hv (t := r') (u := max t (1440 * d + p.op) + k - 1) (by omega)).1
    omega
  · rw [hh, if_pos rfl] at hn
    omega
end Go.Proofs.Ytcpnfcnobnjhdaa
