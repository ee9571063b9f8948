/- The day on which a face falls due, and its job: plain words. -/
import Derived.Test.YtfhlopegmfdkpaaNDue2
namespace Go.Proofs.Ytfhlopegmfdkpaa
open Go.RowKit
def dueF (k least : Int) : Nat → Int → Int → Option Int
  | 0, _, _ => none
  | n + 1, day, r => if day ≤ 100000 then (if r < least then some day else dueF k least n (day + 365) (r * k / 1000)) else none
theorem dueF_stop {k least : Int} {n : Nat} {day r : Int} (h : 100000 < day) : dueF k least n day r = none := by
  cases n with
  | zero => rfl
  | succ n => unfold dueF; rw [if_neg (by omega)]
theorem dueF_yes {k least : Int} {n : Nat} {day r : Int} (h : day ≤ 100000) (hr : r < least) : dueF k least (n + 1) day r = some day := by unfold dueF; rw [if_pos h, if_pos hr]
theorem dueF_step {k least : Int} {n : Nat} {day r : Int} (h : day ≤ 100000) (hr : ¬ r < least) : dueF k least (n + 1) day r = dueF k least n (day + 365) (r * k / 1000) := by
  rw [dueF, if_pos h, if_neg hr]
theorem aged_bound {r k : Int} (hr : 0 ≤ r ∧ r ≤ 100000) (hk : 0 ≤ k ∧ k ≤ 1000) : 0 ≤ r * k ∧ r * k ≤ 100000000 ∧ 0 ≤ r * k / 1000 ∧ r * k / 1000 ≤ 100000 := by
  have h0 : 0 ≤ r * k := Int.mul_nonneg hr.1 hk.1
  have h1 : r * k ≤ 100000 * 1000 := Int.mul_le_mul hr.2 hk.2 hk.1 (by omega)
  omega
def keepOf (k0 k1 k2 k3 side : Int) : Int := if side = 0 then k0 else if side = 1 then k1 else if side = 2 then k2 else k3
def lastM (ms : List Ms) : Ms := ms.getD (ms.length - 1) ⟨0, 0⟩
def dueO (k0 k1 k2 k3 side : Int) (ms : List Ms) (least : Int) : Option Int := dueF (keepOf k0 k1 k2 k3 side) least 300 (lastM ms).day (lastM ms).r
/-- what Due returns: the day, whether there is one, the error -/
def dueD (k0 k1 k2 k3 side : Int) (ms : List Ms) (least : Int) : Int :=
  if measB k0 k1 k2 k3 side ms && inB 0 least 100000 then (dueO k0 k1 k2 k3 side ms least).getD 0 else 0
def dueB (k0 k1 k2 k3 side : Int) (ms : List Ms) (least : Int) : Bool :=
  measB k0 k1 k2 k3 side ms && inB 0 least 100000 && (dueO k0 k1 k2 k3 side ms least).isSome
def dueE (k0 k1 k2 k3 side : Int) (ms : List Ms) (least : Int) : Int :=
  if measB k0 k1 k2 k3 side ms && inB 0 least 100000 then 0 else 2
structure DueIs (k0 k1 k2 k3 side : Int) (ms : List Ms) (least d : Int) (b : Bool) (e : Int) : Prop where
  d : d = dueD k0 k1 k2 k3 side ms least
  b : b = dueB k0 k1 k2 k3 side ms least
  e : e = dueE k0 k1 k2 k3 side ms least
theorem due_bad {k0 k1 k2 k3 side : Int} {ms : List Ms} {least : Int} (h : (measB k0 k1 k2 k3 side ms && inB 0 least 100000) = false) : DueIs k0 k1 k2 k3 side ms least 0 false 2 := by
  refine ⟨?_, ?_, ?_⟩
  · unfold dueD; rw [h]; rfl
  · unfold dueB; rw [h]; rfl
  · unfold dueE; rw [h]; rfl
theorem due_ok {k0 k1 k2 k3 side : Int} {ms : List Ms} {least : Int} {o : Option Int} (h : (measB k0 k1 k2 k3 side ms && inB 0 least 100000) = true) (ho : dueO k0 k1 k2 k3 side ms least = o) : DueIs k0 k1 k2 k3 side ms least (o.getD 0) o.isSome 0 := by
  refine ⟨?_, ?_, ?_⟩
  · unfold dueD; rw [h, ho]; rfl
  · unfold dueB; rw [h, ho]; rfl
  · unfold dueE; rw [h]; rfl
theorem msB_all : ∀ {p : Option Int} {ms : List Ms}, msB p ms = true → ∀ x ∈ ms, (0 ≤ x.day ∧ x.day ≤ 100000) ∧ 0 ≤ x.r ∧ x.r ≤ 100000
  | _, [], _, x, hx => by cases hx
  | p, y :: r, h, x, hx => by
    unfold msB at h
    simp only [Bool.and_eq_true, inB_iff] at h
    rcases List.mem_cons.1 hx with rfl | hx
    · exact ⟨h.1.1.1, h.1.1.2⟩
    · exact msB_all h.2 x hx
theorem meas_facts {k0 k1 k2 k3 side : Int} {ms : List Ms} (h : measB k0 k1 k2 k3 side ms = true) : (0 ≤ side ∧ side ≤ 3) ∧ (1 ≤ ms.length ∧ ms.length ≤ 50) ∧ ((0 ≤ k0 ∧ k0 ≤ 1000) ∧ (0 ≤ k1 ∧ k1 ≤ 1000) ∧ (0 ≤ k2 ∧ k2 ≤ 1000) ∧ (0 ≤ k3 ∧ k3 ≤ 1000)) ∧ ∀ x ∈ ms, (0 ≤ x.day ∧ x.day ≤ 100000) ∧ 0 ≤ x.r ∧ x.r ≤ 100000 := by
  unfold measB kOk at h
  simp only [Bool.and_eq_true, inB_iff, decide_eq_true_eq] at h
  exact ⟨h.1.1.1, h.1.1.2, ⟨h.1.2.1.1.1, h.1.2.1.1.2, h.1.2.1.2, h.1.2.2⟩, msB_all h.2⟩
theorem dueF_bound {k least : Int} : ∀ {n : Nat} {day r d : Int}, dueF k least n day r = some d → 0 ≤ day → 0 ≤ d ∧ d ≤ 100000
  | 0, _, _, _, h, _ => by cases h
  | n + 1, day, r, d, h, h0 => by
    unfold dueF at h
    split at h
    · split at h
      · injection h with h; omega
      · exact dueF_bound h (by omega)
    · cases h
theorem due_cases {k0 k1 k2 k3 side : Int} {ms : List Ms} {least d r : Int} {b : Bool} (h : DueIs k0 k1 k2 k3 side ms least d b r) :
    (r = 2 ∧ b = false) ∨ (r = 0 ∧ b = false) ∨ (r = 0 ∧ b = true ∧ (0 ≤ d ∧ d ≤ 100000) ∧ measB k0 k1 k2 k3 side ms = true) := by
  obtain ⟨h1, h2, h3⟩ := h
  cases hc : measB k0 k1 k2 k3 side ms && inB 0 least 100000
  · refine .inl ⟨?_, ?_⟩
    · unfold dueE at h3; rw [hc] at h3; exact h3
    · unfold dueB at h2; rw [hc] at h2; exact h2
  · have e3 : r = 0 := by unfold dueE at h3; rw [hc] at h3; exact h3
    have hm : measB k0 k1 k2 k3 side ms = true := by rw [Bool.and_eq_true] at hc; exact hc.1
    cases ho : dueO k0 k1 k2 k3 side ms least with
    | none => refine .inr (.inl ⟨e3, ?_⟩); unfold dueB at h2; rw [hc, ho] at h2; exact h2
    | some q =>
      refine .inr (.inr ⟨e3, ?_, ?_, hm⟩)
      · unfold dueB at h2; rw [hc, ho] at h2; exact h2
      · have e1 : d = q := by unfold dueD at h1; rw [hc, ho] at h1; exact h1
        subst e1
        obtain ⟨_, hl, _, hx⟩ := meas_facts hm
        have hmem : lastM ms ∈ ms := by
          unfold lastM
          rw [List.getD_eq_getElem?_getD, List.getElem?_eq_getElem (show ms.length - 1 < ms.length by omega)]
          exact List.getElem_mem _
        exact dueF_bound ho (hx _ hmem).1.1
def jobZ (nu ro ch cr : Int) : Job := ⟨nu, ro, ch, 0, 0, cr, true, false⟩
/-- the job of a face -/
def dueJobF (nu ro ch cr lead k0 k1 k2 k3 side : Int) (ms : List Ms) (least : Int) : Job × Bool × Int :=
  if jobOk (jobZ nu ro ch cr) && inB 0 lead 100000 then
    (if dueB k0 k1 k2 k3 side ms least then (⟨nu, ro, ch, max (max (dueD k0 k1 k2 k3 side ms least - 1) (lastM ms).day - lead) 0, max (dueD k0 k1 k2 k3 side ms least - 1) (lastM ms).day, cr, true, false⟩, true, 0)
     else (⟨0, 0, 0, 0, 0, 0, false, false⟩, false, dueE k0 k1 k2 k3 side ms least))
  else (⟨0, 0, 0, 0, 0, 0, false, false⟩, false, 2)
section
variable {nu ro ch cr lead k0 k1 k2 k3 side least d r : Int} {ms : List Ms} {b : Bool}
theorem dueJob_bad (h : (jobOk (jobZ nu ro ch cr) && inB 0 lead 100000) = false) : dueJobF nu ro ch cr lead k0 k1 k2 k3 side ms least = (⟨0, 0, 0, 0, 0, 0, false, false⟩, false, 2) := by
  unfold dueJobF; rw [h]; rfl
theorem dueJob_no (h : (jobOk (jobZ nu ro ch cr) && inB 0 lead 100000) = true) (hd : DueIs k0 k1 k2 k3 side ms least d false r) : dueJobF nu ro ch cr lead k0 k1 k2 k3 side ms least = (⟨0, 0, 0, 0, 0, 0, false, false⟩, false, r) := by
  unfold dueJobF; rw [h, ← hd.b, ← hd.e]; rfl
theorem dueJob_yes (h : (jobOk (jobZ nu ro ch cr) && inB 0 lead 100000) = true) (hd : DueIs k0 k1 k2 k3 side ms least d true r) {la fi : Int} (hla : la = max (d - 1) (lastM ms).day) (hfi : fi = max (la - lead) 0) :
    dueJobF nu ro ch cr lead k0 k1 k2 k3 side ms least = (⟨nu, ro, ch, fi, la, cr, true, false⟩, true, 0) := by
  unfold dueJobF; rw [h, ← hd.b, ← hd.d, hfi, hla]; rfl
end
end Go.Proofs.Ytfhlopegmfdkpaa
