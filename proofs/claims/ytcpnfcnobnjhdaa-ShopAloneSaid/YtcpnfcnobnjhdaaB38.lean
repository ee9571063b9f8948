/- Parts of the proofs of this seat: DispR. Each part says what it proves; no condition beyond those stated there. -/
import Derived.Test.YtcpnfcnobnjhdaaB26
import Derived.Test.YtcpnfcnobnjhdaaB36

/- What Dispatch plans is right: the plain law. -/
namespace Go.Proofs.Ytcpnfcnobnjhdaa
open Go Go.Sort Go.RowKit StabAt
/-- the steps that have been put so far -/
structure DispR (p : Shop) (R : List At) (S : DS) : Prop where
  ok : ∀ a ∈ R, ∃ s, p.jobs[a.j]? = some s ∧ s[a.k]? = some a.x
  asc : R.Pairwise fun a b => a.j = b.j → a.k < b.k
  rows : ∀ (j : Nat) l, S.pl[j]? = some l → ∀ (k : Nat) t, l[k]? = some t ↔ ∃ a ∈ R, a.j = j ∧ a.k = k ∧ a.t = t
  last : ∀ m, look S.last m = lastP (onB m) R
  placed : Placed p R
theorem DispR.start (p : Shop) : DispR p [] (ds0 p) := by
  refine ⟨fun a h => (by cases h), List.Pairwise.nil, fun j l hl k t => ?_, fun m => rfl, fun i b h => by simp at h⟩
  have : l = [] := by
    simp [ds0, List.getElem?_replicate] at hl
    exact hl.2
  subst this
  simp
theorem DispR.rdy_ {p : Shop} {R : List At} {S : DS} (h : DispR p R S) {j : Nat} {st : List Step} {l : List Int} (hj : p.jobs[j]? = some st) (hl : S.pl[j]? = some l) : rdyR R j = rdy st l := by
  have hr := h.rows j l hl
  unfold rdyR rdy
  cases hlp : lastP (ofJ j) R with
  | none =>
    have hn : l.length = 0 := by
      rcases Nat.eq_zero_or_pos l.length with h0 | h0
      · exact h0
      · obtain ⟨a, ha, e1, _⟩ := (hr 0 l[0]).1 (List.getElem?_eq_getElem h0)
        have := lastP_none hlp a ha
        simp [ofJ, e1] at this
    rw [hn]
  | some b =>
    obtain ⟨i, h1, h2, h3⟩ := lastP_some hlp
    have hbj : b.j = j := by simpa [ofJ] using h2
    have hbm := List.mem_of_getElem? h1
    have hbk : l[b.k]? = some b.t := (hr b.k b.t).2 ⟨b, hbm, hbj, rfl, rfl⟩
    have hlt := (List.getElem?_eq_some_iff.1 hbk).1
    have hlen : l.length = b.k + 1 := by
      rcases Nat.lt_or_ge (b.k + 1) l.length with h4 | h4
      · exfalso
        obtain ⟨a, ha, e1, e2, _⟩ := (hr (b.k + 1) l[b.k + 1]).1 (List.getElem?_eq_getElem h4)
        obtain ⟨i', hi'⟩ := List.getElem?_of_mem ha
        rcases Nat.lt_trichotomy i i' with h5 | h5 | h5
        · have := h3 i' a h5 hi'; simp [ofJ, e1] at this
        · subst h5; rw [h1] at hi'; injection hi' with hi'; subst hi'; omega
        · have := pair_get h.asc h5 hi' h1 (by rw [e1, hbj]); omega
      · omega
    obtain ⟨s, g1, g2⟩ := h.ok b hbm
    rw [hbj, hj] at g1
    injection g1 with g1
    subst g1
    rw [hlen]
    simp only
    rw [List.getD_eq_getElem?_getD, List.getD_eq_getElem?_getD, hbk, g2]
    rfl
theorem DispR.put_ {p : Shop} (hv : VShop p) {R : List At} {S : DS} (h : DispR p R S) (hs : VS p S) {j : Nat} {t : Int} (hb : bestF p S = some (j, t)) : ∃ R', DispR p R' (putS p S j t) := by
  obtain ⟨st, l, x, h1, h2, h3, h4, h5, h6, h7⟩ := best_at hv hs hb
  have htl := total_le hv
  have hfrom : startF p R ⟨j, l.length, t, x⟩ = t := by
    rw [h4]
    unfold startF fromR prevF
    show nextF p (match lastP (onB x.m) R with | none => rdyR R j | some b => max (rdyR R j) (roomF p b x.c)) x.mi = _
    rw [h.last, h.rdy_ h1 h2]
    cases lastP (onB x.m) R <;> rfl
  have hnew : ∀ a ∈ R, a.j = j → a.k < l.length := fun a ha hj => (List.getElem?_eq_some_iff.1 ((h.rows j l h2 a.k a.t).2 ⟨a, ha, hj, rfl, rfl⟩)).1
  refine ⟨R ++ [⟨j, l.length, t, x⟩], fun a ha => ?_, ?_, fun j' l' hl' k t' => ?_, fun m => ?_, fun i b hi => ?_⟩
  · rcases List.mem_append.1 ha with ha | ha
    · exact h.ok a ha
    · simp at ha; subst ha; exact ⟨st, h1, h3⟩
  · rw [List.pairwise_append]
    refine ⟨h.asc, by simp, fun a ha b hb' hj => ?_⟩
    simp at hb'; subst hb'
    exact hnew a ha hj
  · rw [putS_eq t h1 h2 h3] at hl'
    replace hl' : (S.pl.modify j fun l => l ++ [t])[j']? = some l' := hl'
    rw [modify_get] at hl'
    by_cases hjj : j = j'
    · subst hjj
      rw [if_pos rfl, h2] at hl'
      simp only [Option.map_some, Option.some.injEq] at hl'
      subst hl'
      constructor
      · intro hk
        by_cases hkl : k < l.length
        · rw [List.getElem?_append_left hkl] at hk
          obtain ⟨a, ha, e⟩ := (h.rows j l h2 k t').1 hk
          exact ⟨a, by simp [ha], e⟩
        · have hlt := (List.getElem?_eq_some_iff.1 hk).1
          simp at hlt
          obtain rfl : k = l.length := by omega
          simp at hk
          subst hk
          exact ⟨⟨j, l.length, t, x⟩, by simp, rfl, rfl, rfl⟩
      · rintro ⟨a, ha, e1, e2, e3⟩
        rcases List.mem_append.1 ha with ha | ha
        · have hk := (h.rows j l h2 k t').2 ⟨a, ha, e1, e2, e3⟩
          rw [List.getElem?_append_left (List.getElem?_eq_some_iff.1 hk).1]
          exact hk
        · simp at ha; subst ha
          replace e2 : l.length = k := e2
          replace e3 : t = t' := e3
          subst e2 e3
          simp
    · rw [if_neg hjj] at hl'
      rw [h.rows j' l' hl' k t']
      constructor
      · rintro ⟨a, ha, e⟩; exact ⟨a, by simp [ha], e⟩
      · rintro ⟨a, ha, e1, e⟩
        rcases List.mem_append.1 ha with ha | ha
        · exact ⟨a, ha, e1, e⟩
        · simp at ha; subst ha; exact absurd e1 hjj
  · rw [putS_eq t h1 h2 h3, lastP_snoc]
    show look (put S.last x.m _) m = _
    rw [look_put, h.last]
    by_cases hm : m = x.m
    · subst hm; simp [onB]
    · rw [if_neg hm, if_neg (by simp only [onB, decide_eq_true_eq]; exact fun h => hm h.symm)]
  · by_cases hil : i < R.length
    · rw [List.getElem?_append_left hil] at hi
      have := h.placed i b hi
      rw [List.take_append_of_le_length (by omega)]
      exact this
    · have hlt := (List.getElem?_eq_some_iff.1 hi).1
      simp at hlt
      obtain rfl : i = R.length := by omega
      simp at hi
      subst hi
      rw [List.take_left]
      refine ⟨hfrom.symm, h5, ?_⟩
      show t ≤ _
      unfold bd at h6
      push_cast at h6
      omega
theorem DispR.iter {p : Shop} (hv : VShop p) : ∀ (n : Nat) {S : DS} {R : List At}, VS p S → DispR p R S → ∃ R', DispR p R' (iterS p n S)
  | 0, S, R, _, h => ⟨R, h⟩
  | n + 1, S, R, hs, h => by
    cases hb : bestF p S with
    | none => rw [iterS_none hb]; exact ⟨R, h⟩
    | some q =>
      obtain ⟨j, t⟩ := q
      rw [iterS_some hb]
      obtain ⟨R', h'⟩ := h.put_ hv hs hb
      exact DispR.iter hv n (hs.put_ hv hb).1 h'
theorem iter_done {p : Shop} (hv : VShop p) : ∀ (n : Nat) {S : DS}, VS p S → n + cnt S.pl = total p → bestF p (iterS p n S) = none
  | 0, S, hs, h => by
    show bestF p S = none
    cases hb : bestF p S with
    | none => rfl
    | some q =>
      obtain ⟨j, t⟩ := q
      obtain ⟨st, l, x, _, _, _, _, _, _, h7⟩ := best_at hv hs hb
      omega
  | n + 1, S, hs, h => by
    cases hb : bestF p S with
    | none => rw [iterS_none hb]; exact hb
    | some q =>
      obtain ⟨j, t⟩ := q
      rw [iterS_some hb]
      obtain ⟨h1, h2⟩ := hs.put_ hv hb
      exact iter_done hv n h1 (by omega)
/-- what Dispatch returns, as steps that were put one by one -/
theorem disp_placed {p : Shop} (hv : VShop p) : ∃ R, SeqOk p R ∧ Placed p R ∧ dispF p = planR p R := by
  obtain ⟨R, h⟩ := DispR.iter hv (total p) (VS.start p) (DispR.start p)
  have hvs := VS.iter hv (total p) (VS.start p)
  have hn := iter_done hv (total p) (VS.start p) (by rw [cnt_start]; omega)
  have hc := (bestFrom_none hn).2
  have hfull : ∀ (j : Nat) st l, p.jobs[j]? = some st → (iterS p (total p) (ds0 p)).pl[j]? = some l → l.length = st.length := fun j st l hj hl => by
    have h1 := hc j st l hj hl
    have h2 := (hvs.row j st l hj hl).1
    unfold candT at h1
    cases hx : st[l.length]? with
    | none => have := List.getElem?_eq_none_iff.1 hx; omega
    | some x => rw [hx] at h1; cases h1
  have hlen : ∀ (j : Nat) st, p.jobs[j]? = some st → ∃ l, (iterS p (total p) (ds0 p)).pl[j]? = some l := fun j st hj => ⟨_, List.getElem?_eq_getElem (by rw [hvs.len]; exact (List.getElem?_eq_some_iff.1 hj).1)⟩
  have hq : SeqOk p R := by
    refine ⟨h.ok, h.asc, fun j k s x hj hk => ?_⟩
    obtain ⟨l, hl⟩ := hlen j s hj
    have hkl : k < l.length := by rw [hfull j s l hj hl]; exact (List.getElem?_eq_some_iff.1 hk).1
    obtain ⟨a, ha, e1, e2, _⟩ := (h.rows j l hl k l[k]).1 (List.getElem?_eq_getElem hkl)
    exact ⟨a, ha, e1, e2⟩
  refine ⟨R, hq, h.placed, ?_⟩
  unfold dispF
  apply List.ext_getElem?
  intro j
  by_cases hj : j < p.jobs.length
  · have hs : p.jobs[j]? = some p.jobs[j] := List.getElem?_eq_getElem hj
    obtain ⟨l, hl⟩ := hlen j _ hs
    rw [planR_row hs, hl]
    congr 1
    have hll := hfull j _ l hs hl
    apply List.ext_getElem?
    intro k
    by_cases hk : k < l.length
    · obtain ⟨a, ha, e1, e2, e3⟩ := (h.rows j l hl k l[k]).1 (List.getElem?_eq_getElem hk)
      rw [List.getElem?_eq_getElem hk, List.getElem?_map, List.getElem?_range (by omega)]
      simp only [Option.map_some]
      have h9 := tOf_eq hq ha
      rw [e1, e2, e3] at h9
      rw [h9]
    · rw [List.getElem?_eq_none (by omega), List.getElem?_eq_none (by simp; omega)]
  · rw [List.getElem?_eq_none (by rw [hvs.len]; omega), List.getElem?_eq_none (by rw [planR_len]; omega)]
theorem disp_right {p : Shop} (hv : VShop p) : RightP p (dispF p) := by
  obtain ⟨R, h1, h2, h3⟩ := disp_placed hv
  rw [h3]
  exact placed_right hv h1 h2
theorem disp_judge {p : Shop} (hv : VShop p) : (judgeF p (dispF p)).2.2 = 0 := (disp_right hv).judge
end Go.Proofs.Ytcpnfcnobnjhdaa
