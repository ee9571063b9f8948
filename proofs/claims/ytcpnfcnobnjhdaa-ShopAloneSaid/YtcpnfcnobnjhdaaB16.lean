/- Parts of the proofs of this seat: BoundP. Each part says what it proves; no condition beyond those stated there. -/
import Derived.Test.YtcpnfcnobnjhdaaB12
import Derived.Test.YtcpnfcnobnjhdaaB15

/- No right plan ends before the chain of a job or the load of a machine: the plain law. -/
namespace Go.Proofs.Ytcpnfcnobnjhdaa
open Go Go.Sort Go.RowKit StabAt
/-- the judge's word that a plan is right -/
structure RightP (p : Shop) (pl : List (List Int)) : Prop where
  shape : VPlan p pl
  shift : ∀ a ∈ ats p pl, shiftB p a.t a.x.mi = true
  early : ∀ (i : Nat) a b, (ats p pl)[i]? = some b → (ats p pl)[i + 1]? = some a → 0 < a.k → b.dry ≤ a.t
  clash : (ats p pl).Pairwise fun a b => togB p a b = true
theorem shiftBad_none {p : Shop} : ∀ {l : List At}, shiftBad p l = none → ∀ a ∈ l, shiftB p a.t a.x.mi = true
  | [], _, a, h => by cases h
  | b :: l, h, a, ha => by
    unfold shiftBad at h
    split at h
    · rename_i hb
      rcases List.mem_cons.1 ha with rfl | ha
      · exact hb
      · exact shiftBad_none h a ha
    · cases h
theorem earlyBad_none : ∀ {l : List At} {dr : Int}, earlyBad dr l = none → ∀ (i : Nat) a b, l[i]? = some b → l[i + 1]? = some a → 0 < a.k → b.dry ≤ a.t
  | [], _, _, i, a, b, h, _, _ => by simp at h
  | c :: l, dr, h, i, a, b, h1, h2, hk => by
    unfold earlyBad at h
    split at h
    · cases h
    · cases i with
      | succ i => exact earlyBad_none h i a b (by simpa using h1) (by simpa using h2) hk
      | zero =>
        simp at h1
        subst h1
        cases l with
        | nil => simp at h2
        | cons d l =>
          simp at h2
          subst h2
          unfold earlyBad at h
          split at h
          · cases h
          · rename_i hn
            omega
theorem clashBad_none {p : Shop} : ∀ {l : List At}, clashBad p l = none → l.Pairwise fun a b => togB p a b = true
  | [], _ => List.Pairwise.nil
  | c :: l, h => by
    unfold clashBad at h
    split at h
    · rename_i hc
      exact List.pairwise_cons.2 ⟨fun b hb => List.all_eq_true.1 hc b hb, clashBad_none h⟩
    · cases h
theorem right_of {p : Shop} {pl : List (List Int)} (hz : (judgeF p pl).2.2 = 0) : RightP p pl := by
  have hsh := judge_shaped hz
  unfold judgeF at hz
  rw [if_pos hsh] at hz
  unfold judgeL at hz
  cases h1 : shiftBad p (ats p pl) with
  | some a => rw [h1] at hz; cases hz
  | none =>
    rw [h1] at hz
    cases h2 : earlyBad 0 (ats p pl) with
    | some a => rw [h2] at hz; cases hz
    | none =>
      rw [h2] at hz
      cases h3 : clashBad p (ats p pl) with
      | some a => rw [h3] at hz; cases hz
      | none => exact ⟨shaped_facts hsh, shiftBad_none h1, earlyBad_none h2, clashBad_none h3⟩
theorem stepsFrom_has {j : Nat} : ∀ {l : List Step} {k i : Nat} {x : Step}, l[i]? = some x → (⟨j, k + i, x⟩ : Ent) ∈ stepsFrom j k l
  | [], k, i, x, h => by simp at h
  | y :: l, k, 0, x, h => by simp at h; subst h; simp [stepsFrom]
  | y :: l, k, i + 1, x, h => by
    simp only [stepsFrom, List.mem_cons]
    right
    have := stepsFrom_has (j := j) (l := l) (k := k + 1) (i := i) (x := x) (by simpa using h)
    rwa [show k + 1 + i = k + (i + 1) by omega] at this
theorem entsFrom_has : ∀ {js : List (List Step)} {j i k : Nat} {l : List Step} {x : Step}, js[i]? = some l → l[k]? = some x → (⟨j + i, k, x⟩ : Ent) ∈ entsFrom j js
  | [], j, i, k, l, x, h, _ => by simp at h
  | y :: js, j, 0, k, l, x, h, hx => by
    simp at h; subst h
    simp only [entsFrom, List.mem_append]
    left
    have := stepsFrom_has (j := j) (k := 0) hx
    simpa using this
  | y :: js, j, i + 1, k, l, x, h, hx => by
    simp only [entsFrom, List.mem_append]
    right
    have := entsFrom_has (js := js) (j := j + 1) (i := i) (k := k) (l := l) (x := x) (by simpa using h) hx
    rwa [show j + 1 + i = j + (i + 1) by omega] at this
theorem ats_has {p : Shop} {pl : List (List Int)} {j k : Nat} {l : List Step} {x : Step} (hj : p.jobs[j]? = some l) (hx : l[k]? = some x) : (⟨j, k, planAt pl j k, x⟩ : At) ∈ ats p pl := by
  have := entsFrom_has (j := 0) hj hx
  rw [Nat.zero_add] at this
  exact List.mem_map.2 ⟨_, this, rfl⟩
/-- the steps of a job in a right plan: each in a shift, behind the one before it -/
theorem RightP.next {p : Shop} {pl : List (List Int)} (h : RightP p pl) {j k : Nat} {l : List Step} {x y : Step} (hj : p.jobs[j]? = some l) (hx : l[k]? = some x) (hy : l[k + 1]? = some y) : planAt pl j k + x.mi + x.d ≤ planAt pl j (k + 1) := by
  have hm := ats_has (pl := pl) hj hy
  obtain ⟨i, hi⟩ := List.getElem?_of_mem hm
  obtain ⟨i', rfl, b, hb, hbj, hbk⟩ := ats_prev hi (by show 0 < k + 1; omega)
  have h1 := h.early i' _ b hb hi (by show 0 < k + 1; omega)
  obtain ⟨e, he, rfl⟩ := ats_at hb
  obtain ⟨l', g1, g2⟩ := ents_mem (List.mem_of_getElem? he)
  have ej : e.j = j := hbj
  have ek : e.k = k := by have : e.k + 1 = k + 1 := hbk; omega
  rw [ej] at g1
  rw [hj] at g1
  injection g1 with g1
  subst g1
  rw [ek, hx] at g2
  injection g2 with g2
  have h2 : planAt pl e.j e.k + e.x.mi + e.x.d ≤ planAt pl j (k + 1) := h1
  rw [ej, ek, ← g2] at h2
  exact h2
theorem chain_le {p : Shop} (hv : VShop p) {pl : List (List Int)} (h : RightP p pl) {j : Nat} {l : List Step} (hj : p.jobs[j]? = some l) {E : Int} (hE : ∀ a ∈ ats p pl, a.end_ ≤ E) :
    ∀ (n k : Nat) (t e : Int), l.length - k = n → 0 ≤ t → e ≤ E → (∀ x, l[k]? = some x → t ≤ planAt pl j k) → chainSt p (l.drop k) t e ≤ E
  | 0, k, t, e, hn, _, he, _ => by
    rw [List.drop_eq_nil_of_le (by omega)]; exact he
  | n + 1, k, t, e, hn, ht, he, hs => by
    obtain ⟨x, hx⟩ : ∃ x, l[k]? = some x := ⟨_, List.getElem?_eq_getElem (by omega)⟩
    rw [chainSt_drop hx]
    have hm := ats_has (pl := pl) hj hx
    have hsh := h.shift _ hm
    have hend := hE _ hm
    have hle := hs x hx
    obtain ⟨_, _, x1, x2, _, _, x3, _⟩ := (hv.steps j l hj).2 k x hx
    have hN := (next_is hv ht x2).1
    have h1 : nextF p t x.mi ≤ planAt pl j k := by
      rcases Int.lt_or_le (planAt pl j k) (nextF p t x.mi) with h2 | h2
      · have := hN.2.2 _ hle h2
        rw [show shiftB p (planAt pl j k) x.mi = true from hsh] at this
        cases this
      · exact h2
    have h2 := hN.1
    have h3 : planAt pl j k + x.mi ≤ E := hend
    refine chain_le hv h hj hE n (k + 1) _ _ (by omega) (by omega) (by omega) fun y hy => ?_
    have := h.next hj hx hy
    omega
theorem ends_le {p : Shop} {pl : List (List Int)} (hz : (judgeF p pl).2.2 = 0) : 0 ≤ endV p pl ∧ ∀ a ∈ ats p pl, a.end_ ≤ endV p pl := by
  have h := endL_is (rightL p pl) 0
  refine ⟨h.1, fun a ha => h.2.1 a ?_⟩
  unfold rightL
  rw [if_pos hz]
  exact sortA_mem.2 ha
theorem end_chain {p : Shop} (hv : VShop p) {pl : List (List Int)} (hz : (judgeF p pl).2.2 = 0) {j : Nat} {l : List Step} (hj : p.jobs[j]? = some l) : chainF p l ≤ endV p pl := by
  obtain ⟨h0, hE⟩ := ends_le hz
  have hr := right_of hz
  have := chain_le hv hr hj hE l.length 0 0 0 rfl (Int.le_refl _) h0 fun x hx => by
    obtain ⟨_, t, _, _, h1, h2, _⟩ := hr.shape.start hj hx
    omega
  simpa [chainF] using this
/-- within a shift all minutes are open -/
theorem oB_shift {p : Shop} (hv : VShop p) {t m : Int} (hs : shiftB p t m = true) (hm : 0 ≤ m) : oB p (t + m) = oB p t + m := by
  obtain ⟨h1, h2, h3⟩ := shiftB_iff.1 hs
  have := hv.op0
  have := hv.cl
  have e0 : t = 1440 * (t / 1440) + t % 1440 := by omega
  have e1 : t + m = 1440 * (t / 1440) + (t % 1440 + m) := by omega
  have q1 := oB_day hv (d := t / 1440) (a := t % 1440) (by omega) (by omega)
  have q2 := oB_day hv (d := t / 1440) (a := t % 1440 + m) (by omega) (by omega)
  rw [← e0] at q1
  rw [← e1] at q2
  rw [q1, q2]
  unfold dayO
  rw [h1]
  simp only [Bool.false_eq_true, if_false]
  omega
theorem perm_sum {l l' : List Int} (h : l.Perm l') : l.sum = l'.sum := by
  induction h with
  | nil => rfl
  | cons x _ ih => simp [ih]
  | swap x y l => simp only [List.sum_cons]; omega
  | trans _ _ h1 h2 => exact h1.trans h2
def sumA (l : List At) : Int := (l.map fun a => a.x.mi).sum
/-- steps one behind the other take open minutes of their own -/
theorem sum_open {p : Shop} (hv : VShop p) {E : Int} : ∀ (l : List At) (u : Int), (∀ a ∈ l, shiftB p a.t a.x.mi = true ∧ 0 ≤ a.x.mi ∧ a.end_ ≤ E ∧ u ≤ a.t) → l.Pairwise (fun a b => a.end_ ≤ b.t) → u ≤ E → sumA l ≤ oB p E - oB p u
  | [], u, _, _, hu => by have := (oB_mono hv hu).1; simp [sumA]; omega
  | a :: l, u, h, hp, hu => by
    obtain ⟨h1, h2, h3, h4⟩ := h a (by simp)
    obtain ⟨p1, p2⟩ := List.pairwise_cons.1 hp
    have ih := sum_open hv l a.end_ (fun b hb => by obtain ⟨g1, g2, g3, _⟩ := h b (by simp [hb]); exact ⟨g1, g2, g3, p1 b hb⟩) p2 h3
    have e1 : oB p a.end_ = oB p a.t + a.x.mi := oB_shift hv h1 h2
    have e2 := (oB_mono hv h4).1
    have e3 : sumA (a :: l) = a.x.mi + sumA l := by simp [sumA]
    omega
theorem sumM_ats (p : Shop) (pl : List (List Int)) (m : Int) : sumM m (ents p) = sumA ((ats p pl).filter fun a => decide (a.x.m = m)) := by
  unfold ats
  induction ents p with
  | nil => rfl
  | cons e r ih =>
    simp only [List.map_cons, List.filter_cons, sumM]
    by_cases h : e.x.m = m
    · simp only [mkAt, h, decide_true, if_true, sumA, List.map_cons, List.sum_cons]
      simp only [sumA] at ih
      rw [ih]
    · have : decide ((mkAt pl e).x.m = m) = false := decide_eq_false h
      rw [this]
      simp only [h, if_false, Bool.false_eq_true]
      rw [ih]; simp
theorem togB_symm {p : Shop} {a b : At} (h : togB p a b = true) : togB p b a = true := by
  unfold togB at h ⊢
  simp only [Bool.or_eq_true, Bool.not_eq_true', decide_eq_true_eq, decide_eq_false_iff_not] at h ⊢
  rcases h with (h | h) | h
  · exact .inl (.inl fun he => h he.symm)
  · exact .inr h
  · exact .inl (.inr h)
theorem end_load {p : Shop} (hv : VShop p) {pl : List (List Int)} (hz : (judgeF p pl).2.2 = 0) (m : Int) : loadF p m ≤ endV p pl := by
  obtain ⟨h0, hE⟩ := ends_le hz
  have hr := right_of hz
  have hok : ∀ a ∈ ats p pl, AtOk p pl a := fun a ha => ats_ok hv hr.shape ha
  have hop := hv.op0
  -- the machine's steps in ascending order
  have hS : (sortA (ats p pl)).Pairwise fun a b => a.t ≤ b.t := by
    obtain ⟨s, h1, _, h3⟩ := fold_sorted (ats p pl) 0 [] List.Pairwise.nil (fun b hb => by cases hb)
    have : sortA (ats p pl) = s.map (·.1) := by rw [h3]; rfl
    rw [this, List.pairwise_map]
    refine h1.imp fun {a b} hab => ?_
    unfold TA at hab
    omega
  have hT : (sortA (ats p pl)).Pairwise fun a b => togB p a b = true := hr.clash.perm (sortA_perm _).symm fun {x y} h => togB_symm h
  have hF : ((sortA (ats p pl)).filter fun a => decide (a.x.m = m)).Pairwise fun a b => a.end_ ≤ b.t := by
    have h1 := (hS.and hT).filter (fun a => decide (a.x.m = m))
    refine h1.imp_of_mem fun {a b} ha hb hab => ?_
    obtain ⟨g1, g2⟩ := hab
    have ma := List.mem_filter.1 ha
    have mb := List.mem_filter.1 hb
    have am : a.x.m = m := by simpa using ma.2
    have bm : b.x.m = m := by simpa using mb.2
    have oa := hok a (sortA_mem.1 ma.1)
    have ob := hok b (sortA_mem.1 mb.1)
    have ra := room_bd hv (oa.fit hv) (c := b.x.c)
    have rb := room_bd hv (ob.fit hv) (c := a.x.c)
    have x1 := oa.mi0
    have x2 := ob.mi0
    unfold togB at g2
    simp only [Bool.or_eq_true, Bool.not_eq_true', decide_eq_true_eq, decide_eq_false_iff_not] at g2
    show a.t + a.x.mi ≤ b.t
    rcases g2 with (g2 | g2) | g2
    · exact absurd (am.trans bm.symm) g2
    · omega
    · omega
  have hsum : sumM m (ents p) ≤ oB p (endV p pl) := by
    rw [sumM_ats p pl m]
    have hperm : ((ats p pl).filter fun a => decide (a.x.m = m)).Perm ((sortA (ats p pl)).filter fun a => decide (a.x.m = m)) := (sortA_perm _).symm.filter _
    have e1 : sumA ((ats p pl).filter fun a => decide (a.x.m = m)) = sumA ((sortA (ats p pl)).filter fun a => decide (a.x.m = m)) := by
      unfold sumA
      exact perm_sum (hperm.map _)
    rw [e1]
    have := sum_open hv (E := endV p pl) ((sortA (ats p pl)).filter fun a => decide (a.x.m = m)) 0 (fun a ha => by
      have ma := sortA_mem.1 (List.mem_filter.1 ha).1
      have oa := hok a ma
      exact ⟨hr.shift a ma, by have := oa.mi0; omega, hE a ma, oa.t0⟩) hF h0
    rw [oB_zero hv] at this
    omega
  unfold loadF
  by_cases hn : sumM m (ents p) = 0
  · rw [hn, after_zero]; exact h0
  · have hnn : 0 ≤ sumM m (ents p) := by
      rw [sumM_ats p pl m]
      unfold sumA
      have : ∀ l : List At, (∀ a ∈ l, 0 ≤ a.x.mi) → 0 ≤ (l.map fun a => a.x.mi).sum := by
        intro l
        induction l with
        | nil => intro _; simp
        | cons a l ih =>
          intro h
          have h1 := h a (by simp)
          have h2 := ih fun b hb => h b (by simp [hb])
          simp only [List.map_cons, List.sum_cons]
          omega
      exact this _ fun a ha => by have := (hok a (List.mem_filter.1 ha).1).mi0; omega
    have hA := (after_is hv (t := 0) (Int.le_refl _) (m := sumM m (ents p)) (by omega)).1
    rcases Int.lt_or_le (endV p pl) (afterF p 0 (sumM m (ents p))) with h1 | h1
    · have := hA.2 _ h1
      rw [oB_zero hv] at this
      omega
    · exact h1
end Go.Proofs.Ytcpnfcnobnjhdaa
