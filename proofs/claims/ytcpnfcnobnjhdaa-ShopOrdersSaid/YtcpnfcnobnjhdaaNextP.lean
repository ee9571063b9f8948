/- The next start: the plain law. -/
import Derived.Test.YtcpnfcnobnjhdaaSearch
namespace Go.Proofs.Ytcpnfcnobnjhdaa
theorem holsOk_asc : ∀ {l : List Int} {prev : Int}, holsOk prev l = true → (∀ (i : Nat) y, l[i]? = some y → prev < y ∧ 0 ≤ y ∧ y ≤ 10000) ∧ Asc l
  | [], prev, _ => ⟨fun i y h => by simp at h, fun i j y z _ h => by simp at h⟩
  | d :: r, prev, h => by
    simp only [holsOk, Bool.and_eq_true, decide_eq_true_eq] at h
    obtain ⟨⟨h1, h2⟩, h3⟩ := h
    have h1' := inB_iff.1 h1
    obtain ⟨ih1, ih2⟩ := holsOk_asc h3
    refine ⟨fun i y hy => ?_, fun i j y z hij hy hz => ?_⟩
    · cases i with
      | zero => simp at hy; omega
      | succ i => have := ih1 i y (by simpa using hy); omega
    · cases j with
      | zero => omega
      | succ j =>
        cases i with
        | zero =>
          simp at hy
          have := ih1 j z (by simpa using hz)
          omega
        | succ i => exact ih2 i j y z (by omega) (by simpa using hy) (by simpa using hz)
structure VShop (p : Shop) : Prop where
  op0 : 0 ≤ p.op
  opcl : p.op < p.cl
  cl : p.cl ≤ 1440
  holn : p.hol.length ≤ 400
  mach1 : 1 ≤ p.mach
  mach6 : p.mach ≤ 6
  setn : (p.setup.length : Int) = p.mach
  jobn : p.jobs.length ≤ 12
  asc : Asc p.hol
  hol : ∀ (i : Nat) y, p.hol[i]? = some y → 0 ≤ y ∧ y ≤ 10000
  setup : ∀ (i : Nat) y, p.setup[i]? = some y → 0 ≤ y ∧ y ≤ 1000
  steps : ∀ (i : Nat) l, p.jobs[i]? = some l → l.length ≤ 8 ∧ ∀ (j : Nat) x, l[j]? = some x → 0 ≤ x.m ∧ x.m ≤ p.mach - 1 ∧ 1 ≤ x.mi ∧ x.mi ≤ p.cl - p.op ∧ 0 ≤ x.c ∧ x.c ≤ 9 ∧ 0 ≤ x.d ∧ x.d ≤ 10000
theorem valid_facts {p : Shop} (h : validShop p = true) : VShop p := by
  simp only [validShop, headOk, Bool.and_eq_true, decide_eq_true_eq] at h
  obtain ⟨⟨⟨⟨⟨⟨⟨⟨⟨h1, h2⟩, h3⟩, h4⟩, h5⟩, h6⟩, h7⟩, h8⟩, h9⟩, h10⟩ := h
  have h5' := inB_iff.1 h5
  obtain ⟨a1, a2⟩ := holsOk_asc h8
  refine ⟨h1, h2, h3, h4, h5'.1, h5'.2, h6, h7, a2, fun i y hy => ⟨(a1 i y hy).2.1, (a1 i y hy).2.2⟩, fun i y hy => ?_, fun i l hl => ?_⟩
  · exact inB_iff.1 (List.all_eq_true.1 h9 y (List.mem_of_getElem? hy))
  · have hj := List.all_eq_true.1 h10 l (List.mem_of_getElem? hl)
    simp only [jobOk, Bool.and_eq_true, decide_eq_true_eq] at hj
    refine ⟨hj.1, fun j x hx => ?_⟩
    have hs := List.all_eq_true.1 hj.2 x (List.mem_of_getElem? hx)
    simp only [stepOk, Bool.and_eq_true, inB_iff] at hs
    omega
theorem has_bd {p : Shop} (h : VShop p) {d : Int} (hd : hasB p.hol d = true) : 0 ≤ d ∧ d ≤ 10000 := by
  unfold hasB at hd
  rw [List.contains_iff_mem] at hd
  obtain ⟨j, hj⟩ := List.getElem?_of_mem hd
  exact h.hol j d hj
/-- a step of so many minutes that starts at t lies within a shift -/
def shiftB (p : Shop) (t m : Int) : Bool := !hasB p.hol (t / 1440) && decide (p.op ≤ t % 1440) && decide (t % 1440 + m ≤ p.cl)
theorem shiftB_iff {p : Shop} {t m : Int} : shiftB p t m = true ↔ hasB p.hol (t / 1440) = false ∧ p.op ≤ t % 1440 ∧ t % 1440 + m ≤ p.cl := by
  simp [shiftB, and_assoc]
theorem shiftB_no {p : Shop} {t m : Int} (h : hasB p.hol (t / 1440) = true ∨ t % 1440 < p.op ∨ p.cl < t % 1440 + m) : shiftB p t m = false := by
  rw [← Bool.not_eq_true, shiftB_iff]
  rintro ⟨h1, h2, h3⟩
  rcases h with h | h | h
  · rw [h1] at h; cases h
  · omega
  · omega
def IsNext (p : Shop) (t m r : Int) : Prop := t ≤ r ∧ shiftB p r m = true ∧ ∀ r', t ≤ r' → r' < r → shiftB p r' m = false
theorem IsNext.unique {p : Shop} {t m r s : Int} (h : IsNext p t m r) (k : IsNext p t m s) : r = s := by
  rcases Int.lt_trichotomy r s with e | e | e
  · have := k.2.2 r h.1 e; rw [h.2.1] at this; cases this
  · exact e
  · have := h.2.2 s k.1 e; rw [k.2.1] at this; cases this
open Classical in
noncomputable def nextF (p : Shop) (t m : Int) : Int := if h : ∃ r, IsNext p t m r then h.choose else 0
theorem next_eq {p : Shop} {t m r : Int} (h : IsNext p t m r) : nextF p t m = r := by
  unfold nextF
  rw [dif_pos ⟨r, h⟩]
  exact IsNext.unique (Exists.choose_spec ⟨r, h⟩) h

/-- the loop's state: day d, minute a of the day -/
structure NextAt (p : Shop) (t m d a : Int) : Prop where
  d0 : t / 1440 ≤ d
  a0 : p.op ≤ a
  a1 : a < 1440
  le : t ≤ d * 1440 + a
  first : d = t / 1440 ∨ a = p.op
  most : d ≤ 10000 ∨ d ≤ t / 1440 + 1 ∨ d ≤ 10001
  no : ∀ r', t ≤ r' → r' < d * 1440 + a → shiftB p r' m = false
theorem div_of {d a r : Int} (h1 : d * 1440 ≤ r) (h2 : r < d * 1440 + 1440) (ha : r = d * 1440 + a) : r / 1440 = d ∧ r % 1440 = a := by omega
theorem NextAt.start {p : Shop} (hv : VShop p) {t m : Int} (ht : 0 ≤ t) : NextAt p t m (t / 1440) (if t % 1440 < p.op then p.op else t % 1440) := by
  have h1 := hv.op0
  have h2 := hv.opcl
  have h3 := hv.cl
  split
  · refine ⟨Int.le_refl _, Int.le_refl _, by omega, by omega, .inl rfl, by omega, fun r' h4 h5 => shiftB_no (.inr (.inl ?_))⟩
    omega
  · refine ⟨Int.le_refl _, by omega, by omega, by omega, .inl rfl, by omega, fun r' h4 h5 => by omega⟩
theorem NextAt.stop {p : Shop} {t m d a : Int} (h : NextAt p t m d a) (hf : hasB p.hol d = false) (hm : a + m ≤ p.cl) (ha : 0 ≤ a) : IsNext p t m (d * 1440 + a) := by
  have h1 := h.a1
  obtain ⟨e1, e2⟩ := div_of (d := d) (a := a) (r := d * 1440 + a) (by omega) (by omega) rfl
  exact ⟨h.le, shiftB_iff.2 ⟨by rw [e1]; exact hf, by rw [e2]; exact h.a0, by rw [e2]; exact hm⟩, h.no⟩
theorem NextAt.go_on {p : Shop} (hv : VShop p) {t m d a : Int} (h : NextAt p t m d a) (hm1 : p.op + m ≤ p.cl) (hf : hasB p.hol d = true ∨ p.cl < a + m) : NextAt p t m (d + 1) p.op ∧ (d ≤ 10000 ∨ d ≤ t / 1440) := by
  have h1 := hv.op0
  have h2 := hv.opcl
  have h3 := hv.cl
  have k0 := h.d0
  have k1 := h.a0
  have k2 := h.a1
  have k3 := h.le
  have hd : d ≤ 10000 ∨ d ≤ t / 1440 := by
    rcases hf with hf | hf
    · exact .inl (has_bd hv hf).2
    · rcases h.first with e | e
      · exact .inr (by omega)
      · omega
  refine ⟨⟨by omega, Int.le_refl _, by omega, by omega, .inr rfl, by omega, fun r' h4 h5 => ?_⟩, hd⟩
  by_cases hr : r' < d * 1440 + a
  · exact h.no r' h4 hr
  · by_cases hr2 : r' < d * 1440 + 1440
    · have e1 : r' / 1440 = d := by omega
      rcases hf with hf | hf
      · exact shiftB_no (.inl (by rw [e1]; exact hf))
      · exact shiftB_no (.inr (.inr (by omega)))
    · exact shiftB_no (.inr (.inl (by omega)))
theorem NextAt.bd {p : Shop} {t m d a : Int} (ht : 0 ≤ t) (h : NextAt p t m d a) : 0 ≤ d ∧ d ≤ t + 10002 := by
  have := h.d0
  have := h.most
  omega
end Go.Proofs.Ytcpnfcnobnjhdaa
