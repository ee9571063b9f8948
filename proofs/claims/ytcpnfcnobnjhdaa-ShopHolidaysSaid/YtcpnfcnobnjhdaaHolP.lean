/- One more holiday: the plain law. -/
import Derived.Test.YtcpnfcnobnjhdaaLoad
namespace Go.Proofs.Ytcpnfcnobnjhdaa
/-- q has all holidays of p, and else is p -/
structure More (p q : Shop) : Prop where
  op : q.op = p.op
  cl : q.cl = p.cl
  jobs : q.jobs = p.jobs
  hol : ∀ d, hasB p.hol d = true → hasB q.hol d = true
theorem More.shift {p q : Shop} (h : More p q) {t m : Int} (hs : shiftB q t m = true) : shiftB p t m = true := by
  obtain ⟨h1, h2, h3⟩ := shiftB_iff.1 hs
  refine shiftB_iff.2 ⟨?_, by rw [← h.op]; exact h2, by rw [← h.cl]; exact h3⟩
  cases hh : hasB p.hol (t / 1440)
  · rfl
  · rw [h.hol _ hh] at h1; cases h1
theorem More.next {p q : Shop} (h : More p q) (hv : VShop p) (hq : VShop q) {t m : Int} (ht : 0 ≤ t) (hm : m ≤ p.cl - p.op) : nextF p t m ≤ nextF q t m := by
  have h1 := (next_is hv ht hm).1
  have h2 := (next_is hq ht (m := m) (by rw [h.op, h.cl]; exact hm)).1
  rcases Int.lt_or_le (nextF q t m) (nextF p t m) with hlt | hge
  · have := h1.2.2 _ h2.1 hlt
    rw [h.shift h2.2.1] at this
    cases this
  · exact hge
theorem More.isO {p q : Shop} (h : More p q) (t : Int) : isO q t ≤ isO p t := by
  unfold Go.Proofs.Ytcpnfcnobnjhdaa.isO
  rw [h.op, h.cl]
  by_cases hh : hasB p.hol (t / 1440) = true
  · rw [if_neg (by rw [h.hol _ hh]; simp)]
    split <;> omega
  · have hh' : hasB p.hol (t / 1440) = false := by simpa using hh
    by_cases hc : p.op ≤ t % 1440 ∧ t % 1440 < p.cl
    · rw [if_pos (c := hasB p.hol (t / 1440) = false ∧ p.op ≤ t % 1440 ∧ t % 1440 < p.cl) ⟨hh', hc.1, hc.2⟩]; split <;> omega
    · rw [if_neg (by intro h; exact hc h.2), if_neg (by intro h; exact hc h.2)]; omega
theorem More.oB_le {p q : Shop} (h : More p q) (hv : VShop p) (hq : VShop q) (t : Int) : ∀ n : Nat, oB q (t + n) - oB q t ≤ oB p (t + n) - oB p t
  | 0 => by simp
  | n + 1 => by
    have h1 := h.oB_le hv hq t n
    have h2 := oB_succ hv (t + n)
    have h3 := oB_succ hq (t + n)
    have h4 := h.isO (t + n)
    rw [show t + ((n + 1 : Nat) : Int) = t + n + 1 by omega]
    omega
theorem More.oB {p q : Shop} (h : More p q) (hv : VShop p) (hq : VShop q) {t u : Int} (htu : t ≤ u) : oB q u - oB q t ≤ oB p u - oB p t := by
  have := h.oB_le hv hq t (u - t).toNat
  rwa [show t + ((u - t).toNat : Int) = u by omega] at this
theorem More.after {p q : Shop} (h : More p q) (hv : VShop p) (hq : VShop q) {t m : Int} (ht : 0 ≤ t) (hm : 0 ≤ m) : afterF p t m ≤ afterF q t m := by
  by_cases h0 : m = 0
  · subst h0; rw [after_zero, after_zero]; omega
  · have h1 := (after_is hv ht (m := m) (by omega)).1
    have h2 := after_worked hq ht hm
    have h3 := after_ge hq ht hm
    have h4 := h.oB hv hq h3
    rcases Int.lt_or_le (afterF q t m) (afterF p t m) with hlt | hge
    · have := h1.2 _ hlt; omega
    · exact hge
theorem More.chainSt {p q : Shop} (h : More p q) (hv : VShop p) (hq : VShop q) : ∀ (l : List Step) (_ : ∀ x ∈ l, 1 ≤ x.mi ∧ x.mi ≤ p.cl - p.op ∧ 0 ≤ x.d) (t u e f : Int), 0 ≤ t → t ≤ u → e ≤ f → chainSt p l t e ≤ chainSt q l u f
  | [], _, t, u, e, f, _, _, hef => hef
  | x :: r, hl, t, u, e, f, h0, htu, hef => by
    obtain ⟨x1, x2, x3⟩ := hl x (by simp)
    have h1 := next_mono hv h0 htu (m := x.mi) x2
    have h2 := h.next hv hq (t := u) (m := x.mi) (by omega) x2
    have h3 := next_ge hv h0 (m := x.mi) x2
    exact h.chainSt hv hq r (fun y hy => hl y (by simp [hy])) _ _ _ _ (by omega) (by omega) (by omega)
theorem More.chain {p q : Shop} (h : More p q) (hv : VShop p) (hq : VShop q) {j : Nat} {l : List Step} (hj : p.jobs[j]? = some l) : chainF p l ≤ chainF q l := by
  refine h.chainSt hv hq l (fun x hx => ?_) 0 0 0 0 (by omega) (by omega) (by omega)
  obtain ⟨k, hk⟩ := List.getElem?_of_mem hx
  have := (hv.steps j l hj).2 k x hk
  omega
theorem More.load {p q : Shop} (h : More p q) (hv : VShop p) (hq : VShop q) (m : Int) : loadF p m ≤ loadF q m := by
  unfold loadF
  rw [show ents q = ents p by unfold ents; rw [h.jobs]]
  exact h.after hv hq (by omega) (sumM_bd hv m (es := ents p) (r := []) (by simp)).1

/-- a holiday put among the others -/
def insF (day : Int) : Bool → List Int → List Int
  | put, [] => if put then [] else [day]
  | true, h :: r => h :: insF day true r
  | false, h :: r => if day ≤ h then (if day < h then [day, h] else [h]) ++ insF day true r else h :: insF day false r
theorem insF_has (day : Int) : ∀ (b : Bool) (l : List Int) (d : Int), d ∈ l → d ∈ insF day b l
  | _, [], d, h => by simp at h
  | true, h :: r, d, hd => by
    rcases List.mem_cons.1 hd with rfl | hd
    · exact List.mem_cons_self ..
    · exact List.mem_cons_of_mem _ (insF_has day true r d hd)
  | false, h :: r, d, hd => by
    unfold insF
    rcases List.mem_cons.1 hd with rfl | hd
    · split
      · split <;> simp
      · simp
    · split
      · exact List.mem_append_right _ (insF_has day true r d hd)
      · exact List.mem_cons_of_mem _ (insF_has day false r d hd)
theorem insF_more (p : Shop) (day : Int) : More p { p with hol := insF day false p.hol } :=
  ⟨rfl, rfl, rfl, fun d h => by unfold hasB at *; rw [List.contains_iff_mem] at *; exact insF_has day false _ d h⟩
theorem insF_true {day : Int} {l : List Int} {k : Nat} {x : Int} (h : l[k]? = some x) : insF day true (l.drop k) = x :: insF day true (l.drop (k + 1)) := by
  obtain ⟨hl, hf⟩ := List.getElem?_eq_some_iff.1 h
  rw [List.drop_eq_getElem_cons hl, hf]; rfl
theorem insF_lt {day : Int} {l : List Int} {k : Nat} {x : Int} (h : l[k]? = some x) (hx : x < day) : insF day false (l.drop k) = x :: insF day false (l.drop (k + 1)) := by
  obtain ⟨hl, hf⟩ := List.getElem?_eq_some_iff.1 h
  rw [List.drop_eq_getElem_cons hl, hf, insF, if_neg (by omega)]
theorem insF_gt {day : Int} {l : List Int} {k : Nat} {x : Int} (h : l[k]? = some x) (hx : day < x) : insF day false (l.drop k) = day :: x :: insF day true (l.drop (k + 1)) := by
  obtain ⟨hl, hf⟩ := List.getElem?_eq_some_iff.1 h
  rw [List.drop_eq_getElem_cons hl, hf, insF, if_pos (by omega), if_pos hx]; rfl
theorem insF_eq {day : Int} {l : List Int} {k : Nat} (h : l[k]? = some day) : insF day false (l.drop k) = day :: insF day true (l.drop (k + 1)) := by
  obtain ⟨hl, hf⟩ := List.getElem?_eq_some_iff.1 h
  rw [List.drop_eq_getElem_cons hl, hf, insF, if_pos (by omega), if_neg (by omega)]; rfl
end Go.Proofs.Ytcpnfcnobnjhdaa
