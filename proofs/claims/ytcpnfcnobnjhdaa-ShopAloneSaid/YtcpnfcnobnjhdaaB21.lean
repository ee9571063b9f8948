/- Parts of the proofs of this seat: DispP. Each part says what it proves; no condition beyond those stated there. -/
import Derived.Test.YtcpnfcnobnjhdaaB15

/- Dispatch: the plain words. -/
namespace Go.Proofs.Ytcpnfcnobnjhdaa
open Go.RowKit
/-- the last steps of the machines, and the starts so far -/
structure DS where
  last : List (Int × At)
  pl : List (List Int)
def bd (K : Nat) : Int := 20000000 + K * 20000
def cnt (pl : List (List Int)) : Nat := (pl.map List.length).sum
def total (p : Shop) : Nat := (p.jobs.map List.length).sum
/-- when a job is ready for its next step -/
def rdy (st : List Step) (l : List Int) : Int := match l.length with
  | 0 => 0
  | k + 1 => l.getD k 0 + (st.getD k ⟨0, 0, 0, 0⟩).mi + (st.getD k ⟨0, 0, 0, 0⟩).d
noncomputable def prevF (p : Shop) (last : List (Int × At)) (x : Step) (r : Int) : Int := match look last x.m with
  | some b => max r (roomF p b x.c)
  | none => r
noncomputable def candT (p : Shop) (last : List (Int × At)) (st : List Step) (l : List Int) : Option Int := match st[l.length]? with
  | none => none
  | some x => some (nextF p (prevF p last x (rdy st l)) x.mi)
def upd (acc : Option (Nat × Int)) (j : Nat) (c : Option Int) : Option (Nat × Int) := match c with
  | none => acc
  | some t => match acc with
    | none => some (j, t)
    | some (b, w) => if t < w then some (j, t) else some (b, w)
noncomputable def bestFrom (p : Shop) (last : List (Int × At)) : Nat → List (List Step) → List (List Int) → Option (Nat × Int) → Option (Nat × Int)
  | j, st :: js, l :: ls, acc => bestFrom p last (j + 1) js ls (upd acc j (candT p last st l))
  | _, _, _, acc => acc
noncomputable def bestF (p : Shop) (S : DS) : Option (Nat × Int) := bestFrom p S.last 0 p.jobs S.pl none
def stepAt (p : Shop) (j k : Nat) : Step := (p.jobs.getD j []).getD k ⟨0, 0, 0, 0⟩
def putS (p : Shop) (S : DS) (j : Nat) (t : Int) : DS :=
  ⟨put S.last (stepAt p j (S.pl.getD j []).length).m ⟨j, (S.pl.getD j []).length, t, stepAt p j (S.pl.getD j []).length⟩, S.pl.modify j fun l => l ++ [t]⟩
noncomputable def nextS (p : Shop) (S : DS) : DS := match bestF p S with
  | none => S
  | some (j, t) => putS p S j t
noncomputable def iterS (p : Shop) : Nat → DS → DS
  | 0, S => S
  | n + 1, S => iterS p n (nextS p S)
def ds0 (p : Shop) : DS := ⟨[], List.replicate p.jobs.length []⟩
noncomputable def dispF (p : Shop) : List (List Int) := (iterS p (total p) (ds0 p)).pl
theorem iterS_none {p : Shop} {S : DS} (h : bestF p S = none) : ∀ n, iterS p n S = S
  | 0 => rfl
  | n + 1 => by
    unfold iterS nextS
    rw [h]
    exact iterS_none h n
theorem iterS_some {p : Shop} {S : DS} {j n : Nat} {t : Int} (h : bestF p S = some (j, t)) : iterS p (n + 1) S = iterS p n (putS p S j t) := by
  show iterS p n (nextS p S) = _
  unfold nextS; rw [h]
/-- the state of a dispatch -/
structure VS (p : Shop) (S : DS) : Prop where
  len : S.pl.length = p.jobs.length
  row : ∀ (j : Nat) st l, p.jobs[j]? = some st → S.pl[j]? = some l → l.length ≤ st.length ∧ ∀ (i : Nat) t, l[i]? = some t → 0 ≤ t ∧ t ≤ bd (cnt S.pl)
  last : ∀ m b, look S.last m = some b → AtFit p b ∧ b.x.m = m ∧ 0 ≤ b.x.c ∧ b.x.c ≤ 9 ∧ b.t ≤ bd (cnt S.pl)
theorem cnt_le {p : Shop} : ∀ {js : List (List Step)} {pl : List (List Int)}, pl.length = js.length → (∀ (j : Nat) st l, js[j]? = some st → pl[j]? = some l → l.length ≤ st.length) → (pl.map List.length).sum ≤ (js.map List.length).sum
  | [], [], _, _ => Nat.le_refl _
  | [], _ :: _, h, _ => by simp at h
  | _ :: _, [], h, _ => by simp at h
  | st :: js, l :: pl, h, hr => by
    have h1 := hr 0 st l rfl rfl
    have h2 := cnt_le (p := p) (js := js) (pl := pl) (by simpa using h) fun j s x g1 g2 => hr (j + 1) s x (by simpa using g1) (by simpa using g2)
    simp only [List.map_cons, List.sum_cons]
    omega
theorem cnt_lt {p : Shop} : ∀ {js : List (List Step)} {pl : List (List Int)}, pl.length = js.length → (∀ (j : Nat) st l, js[j]? = some st → pl[j]? = some l → l.length ≤ st.length) → (∃ (j : Nat) (st : List Step) (l : List Int), js[j]? = some st ∧ pl[j]? = some l ∧ l.length < st.length) → (pl.map List.length).sum < (js.map List.length).sum
  | [], _, _, _, h => by obtain ⟨j, st, l, h, _⟩ := h; simp at h
  | _ :: _, [], h, _, _ => by simp at h
  | st :: js, l :: pl, h, hr, ⟨j, s, x, g1, g2, g3⟩ => by
    have h1 := hr 0 st l rfl rfl
    have hr' : ∀ (j : Nat) s x, js[j]? = some s → pl[j]? = some x → x.length ≤ s.length := fun j s x g1 g2 => hr (j + 1) s x (by simpa using g1) (by simpa using g2)
    simp only [List.map_cons, List.sum_cons]
    cases j with
    | zero =>
      simp at g1 g2; subst g1 g2
      have h2 := cnt_le (p := p) (js := js) (pl := pl) (by simpa using h) hr'
      omega
    | succ j =>
      have h2 := cnt_lt (p := p) (js := js) (pl := pl) (by simpa using h) hr' ⟨j, s, x, by simpa using g1, by simpa using g2, g3⟩
      omega
theorem cnt_snoc : ∀ {pl : List (List Int)} {j : Nat} {l : List Int} {t : Int}, pl[j]? = some l → cnt (pl.modify j fun l => l ++ [t]) = cnt pl + 1
  | [], j, l, t, h => by simp at h
  | l' :: pl, 0, l, t, h => by simp [cnt]; omega
  | l' :: pl, j + 1, l, t, h => by
    have := cnt_snoc (pl := pl) (j := j) (l := l) (t := t) (by simpa using h)
    unfold cnt at this ⊢
    simp only [List.modify_succ_cons, List.map_cons, List.sum_cons]
    omega
theorem sum_le (n : Nat) : ∀ {js : List (List Step)}, (∀ l ∈ js, l.length ≤ n) → (js.map List.length).sum ≤ js.length * n
  | [], _ => by simp
  | l :: js, h => by
    have h1 := h l (by simp)
    have h2 := sum_le n (js := js) fun l hl => h l (by simp [hl])
    simp only [List.map_cons, List.sum_cons, List.length_cons, Nat.succ_mul]
    omega
theorem total_le {p : Shop} (hv : VShop p) : total p ≤ 96 := by
  have h := sum_le 8 (js := p.jobs) fun l hl => by
    obtain ⟨i, hi⟩ := List.getElem?_of_mem hl
    exact (hv.steps i l hi).1
  have := hv.jobn
  unfold total
  omega
theorem VS.cnt_le {p : Shop} {S : DS} (h : VS p S) : cnt S.pl ≤ total p := Go.Proofs.Ytcpnfcnobnjhdaa.cnt_le (p := p) h.len fun j st l h1 h2 => (h.row j st l h1 h2).1
theorem rdy_bd {p : Shop} (hv : VShop p) {S : DS} (h : VS p S) {j : Nat} {st : List Step} {l : List Int} (hj : p.jobs[j]? = some st) (hl : S.pl[j]? = some l) : 0 ≤ rdy st l ∧ rdy st l ≤ bd (cnt S.pl) + 11440 := by
  obtain ⟨h1, h2⟩ := h.row j st l hj hl
  have hb : 0 ≤ bd (cnt S.pl) := by unfold bd; omega
  unfold rdy
  split
  · omega
  · rename_i k hk
    have hkl : k < l.length := by omega
    have hks : k < st.length := by omega
    have e1 : l[k]? = some l[k] := List.getElem?_eq_getElem hkl
    have e2 : st[k]? = some st[k] := List.getElem?_eq_getElem hks
    have g1 := h2 k _ e1
    obtain ⟨_, _, x1, x2, _, _, x3, x4⟩ := (hv.steps j st hj).2 k _ e2
    have v0 := hv.op0
    have v1 := hv.cl
    rw [List.getD_eq_getElem?_getD, List.getD_eq_getElem?_getD, e1, e2]
    simp only [Option.getD_some]
    omega
theorem prev_bd {p : Shop} (hv : VShop p) {S : DS} (h : VS p S) {x : Step} {r : Int} (h0 : 0 ≤ r) (h1 : r ≤ bd (cnt S.pl) + 11440) : 0 ≤ prevF p S.last x r ∧ prevF p S.last x r ≤ bd (cnt S.pl) + 11440 := by
  unfold prevF
  cases hl : look S.last x.m with
  | none => exact ⟨h0, h1⟩
  | some b =>
    obtain ⟨hf, _, _, _, ht⟩ := h.last _ b hl
    have := room_bd hv hf (c := x.c)
    have := hf.mi1
    have := hf.t0
    have := hf.mi0
    show 0 ≤ max r (roomF p b x.c) ∧ max r (roomF p b x.c) ≤ _
    omega
theorem next_bd {p : Shop} (hv : VShop p) {S : DS} {t m : Int} (h0 : 0 ≤ t) (h1 : t ≤ bd (cnt S.pl) + 11440) (hm : m ≤ p.cl - p.op) : 0 ≤ nextF p t m ∧ nextF p t m ≤ bd (cnt S.pl + 1) := by
  have h2 := next_ge hv h0 hm
  have h3 := (next_is hv h0 hm).2
  have := hv.opcl
  have := hv.cl
  have : 0 ≤ (cnt S.pl : Int) := by omega
  unfold bd at h1 ⊢
  push_cast
  omega
theorem candT_some {p : Shop} (hv : VShop p) {S : DS} (h : VS p S) {j : Nat} {st : List Step} {l : List Int} {t : Int} (hj : p.jobs[j]? = some st) (hl : S.pl[j]? = some l) (hc : candT p S.last st l = some t) :
    ∃ x, st[l.length]? = some x ∧ t = nextF p (prevF p S.last x (rdy st l)) x.mi ∧ 0 ≤ t ∧ t ≤ bd (cnt S.pl + 1) := by
  unfold candT at hc
  cases hx : st[l.length]? with
  | none => rw [hx] at hc; cases hc
  | some x =>
    rw [hx] at hc
    injection hc with hc
    obtain ⟨_, _, x1, x2, _⟩ := (hv.steps j st hj).2 _ x hx
    have h1 := rdy_bd hv h hj hl
    have h2 := prev_bd hv h (x := x) h1.1 h1.2
    have h3 := next_bd hv (S := S) h2.1 h2.2 x2
    exact ⟨x, rfl, hc.symm, by rw [← hc]; exact h3.1, by rw [← hc]; exact h3.2⟩
/-- what the search finds -/
theorem bestFrom_some {p : Shop} {last : List (Int × At)} : ∀ {js : List (List Step)} {ls : List (List Int)} {j : Nat} {acc : Option (Nat × Int)} {b : Nat} {t : Int}, bestFrom p last j js ls acc = some (b, t) →
    acc = some (b, t) ∨ ∃ i st l, b = j + i ∧ js[i]? = some st ∧ ls[i]? = some l ∧ candT p last st l = some t
  | [], ls, j, acc, b, t, h => .inl (by simpa [bestFrom] using h)
  | _ :: _, [], j, acc, b, t, h => .inl (by simpa [bestFrom] using h)
  | st :: js, l :: ls, j, acc, b, t, h => by
    unfold bestFrom at h
    rcases bestFrom_some h with h1 | ⟨i, st', l', h1, h2, h3, h4⟩
    · cases hc : candT p last st l with
      | none => rw [hc] at h1; exact .inl h1
      | some u =>
        rw [hc] at h1
        unfold upd at h1
        cases acc with
        | none =>
          simp at h1
          exact .inr ⟨0, st, l, by omega, rfl, rfl, by rw [hc, h1.2]⟩
        | some a =>
          obtain ⟨a1, a2⟩ := a
          simp only at h1
          split at h1
          · injection h1 with h1
            injection h1 with h5 h6
            exact .inr ⟨0, st, l, by omega, rfl, rfl, by rw [hc, h6]⟩
          · exact .inl h1
    · exact .inr ⟨i + 1, st', l', by omega, by simpa using h2, by simpa using h3, h4⟩
theorem upd_none {acc : Option (Nat × Int)} {j : Nat} {c : Option Int} (h : upd acc j c = none) : acc = none ∧ c = none := by
  unfold upd at h
  cases c with
  | none => exact ⟨h, rfl⟩
  | some t =>
    cases acc with
    | none => cases h
    | some a =>
      simp only at h
      split at h <;> cases h
theorem bestFrom_none {p : Shop} {last : List (Int × At)} : ∀ {js : List (List Step)} {ls : List (List Int)} {j : Nat} {acc : Option (Nat × Int)}, bestFrom p last j js ls acc = none →
    acc = none ∧ ∀ (i : Nat) st l, js[i]? = some st → ls[i]? = some l → candT p last st l = none
  | [], ls, j, acc, h => ⟨by simpa [bestFrom] using h, fun i st l h1 _ => by simp at h1⟩
  | _ :: _, [], j, acc, h => ⟨by simpa [bestFrom] using h, fun i st l _ h1 => by simp at h1⟩
  | st :: js, l :: ls, j, acc, h => by
    unfold bestFrom at h
    obtain ⟨h1, h2⟩ := bestFrom_none h
    obtain ⟨h3, h4⟩ := upd_none h1
    refine ⟨h3, fun i st' l' g1 g2 => ?_⟩
    cases i with
    | zero => simp at g1 g2; subst g1 g2; exact h4
    | succ i => exact h2 i st' l' (by simpa using g1) (by simpa using g2)
theorem bestFrom_drop {p : Shop} {last : List (Int × At)} {js : List (List Step)} {ls : List (List Int)} {j : Nat} {acc : Option (Nat × Int)} {st : List Step} {l : List Int} (h1 : js[j]? = some st) (h2 : ls[j]? = some l) :
    bestFrom p last j (js.drop j) (ls.drop j) acc = bestFrom p last (j + 1) (js.drop (j + 1)) (ls.drop (j + 1)) (upd acc j (candT p last st l)) := by
  obtain ⟨g1, e1⟩ := List.getElem?_eq_some_iff.1 h1
  obtain ⟨g2, e2⟩ := List.getElem?_eq_some_iff.1 h2
  rw [List.drop_eq_getElem_cons g1, List.drop_eq_getElem_cons g2, e1, e2]
  rfl
/-- what is known of the best -/
theorem best_at {p : Shop} (hv : VShop p) {S : DS} (h : VS p S) {j : Nat} {t : Int} (hb : bestF p S = some (j, t)) :
    ∃ st l x, p.jobs[j]? = some st ∧ S.pl[j]? = some l ∧ st[l.length]? = some x ∧ t = nextF p (prevF p S.last x (rdy st l)) x.mi ∧ 0 ≤ t ∧ t ≤ bd (cnt S.pl + 1) ∧ cnt S.pl < total p := by
  rcases bestFrom_some hb with h1 | ⟨i, st, l, h1, h2, h3, h4⟩
  · cases h1
  · obtain rfl : j = i := by omega
    obtain ⟨x, g1, g2, g3, g4⟩ := candT_some hv h h2 h3 h4
    refine ⟨st, l, x, h2, h3, g1, g2, g3, g4, ?_⟩
    exact cnt_lt (p := p) h.len (fun j st l h1 h2 => (h.row j st l h1 h2).1) ⟨j, st, l, h2, h3, (List.getElem?_eq_some_iff.1 g1).1⟩
theorem putS_eq {p : Shop} {S : DS} {j : Nat} {st : List Step} {l : List Int} {x : Step} (t : Int) (hj : p.jobs[j]? = some st) (hl : S.pl[j]? = some l) (hx : st[l.length]? = some x) :
    putS p S j t = ⟨put S.last x.m ⟨j, l.length, t, x⟩, S.pl.modify j fun l => l ++ [t]⟩ := by
  have e1 : S.pl.getD j [] = l := by rw [List.getD_eq_getElem?_getD, hl]; rfl
  have e2 : stepAt p j l.length = x := by
    have e3 : p.jobs.getD j [] = st := by rw [List.getD_eq_getElem?_getD, hj]; rfl
    unfold stepAt; rw [e3, List.getD_eq_getElem?_getD, hx]; rfl
  unfold putS
  rw [e1, e2]
theorem look_cons {V : Type} (a : Int) (u : V) (M : List (Int × V)) (k : Int) : look ((a, u) :: M) k = if a = k then some u else look M k := by
  unfold look
  rw [List.find?_cons]
  by_cases h : a = k
  · subst h; simp
  · have h1 : (a == k) = false := by simpa using h
    simp only [h1, if_neg h]
theorem look_map {V : Type} {k k' : Int} {v : V} : ∀ M : List (Int × V), look (M.map fun p => if p.1 == k then (k, v) else p) k' = if k' = k then (if (look M k).isSome then some v else none) else look M k'
  | [] => by simp [look]
  | (a, u) :: M => by
    rw [List.map_cons, look_cons a u M k, look_cons a u M k']
    by_cases ha : a = k
    · subst ha
      rw [if_pos (by simp), look_cons, look_map M]
      by_cases hk : k' = a
      · subst hk; simp
      · rw [if_neg (fun he => hk he.symm), if_neg hk, if_neg hk, if_neg (fun he => hk he.symm)]
    · have h1 : (a == k) = false := by simpa using ha
      simp only [h1, Bool.false_eq_true, if_false]
      rw [look_cons, look_map M]
      by_cases hk : k' = k
      · subst hk; simp [ha]
      · simp only [if_neg hk]
theorem look_app {V : Type} (M : List (Int × V)) (k k' : Int) (v : V) (h : look M k = none) : look (M ++ [(k, v)]) k' = if k' = k then some v else look M k' := by
  induction M with
  | nil =>
    rw [List.nil_append, look_cons]
    by_cases hk : k' = k
    · subst hk; simp
    · rw [if_neg (fun he => hk he.symm), if_neg hk]
  | cons p M ih =>
    obtain ⟨a, u⟩ := p
    rw [look_cons] at h
    rw [List.cons_append, look_cons, look_cons]
    by_cases ha : a = k
    · rw [if_pos ha] at h; cases h
    · rw [if_neg ha] at h
      rw [ih h]
      by_cases hk : k' = k
      · subst hk; simp [ha]
      · simp only [if_neg hk]
theorem look_put {V : Type} {M : List (Int × V)} {k k' : Int} {v : V} : look (put M k v) k' = if k' = k then some v else look M k' := by
  unfold put
  by_cases hs : (look M k).isSome
  · rw [if_pos hs, look_map, if_pos hs]
  · rw [if_neg hs, look_app]
    cases hl : look M k with
    | none => rfl
    | some u => rw [hl] at hs; simp at hs
theorem VS.put_ {p : Shop} (hv : VShop p) {S : DS} (h : VS p S) {j : Nat} {t : Int} (hb : bestF p S = some (j, t)) : VS p (putS p S j t) ∧ cnt (putS p S j t).pl = cnt S.pl + 1 := by
  obtain ⟨st, l, x, h1, h2, h3, _, h5, h6, h7⟩ := best_at hv h hb
  have hc : cnt (S.pl.modify j fun l => l ++ [t]) = cnt S.pl + 1 := cnt_snoc h2
  have ht := total_le hv
  have hbd : bd (cnt S.pl) ≤ bd (cnt S.pl + 1) := by unfold bd; push_cast; omega
  have hb2 : bd (cnt S.pl + 1) ≤ 1000000000 := by unfold bd; push_cast; omega
  rw [putS_eq t h1 h2 h3]
  refine ⟨⟨by simpa using h.len, fun i s y g1 g2 => ?_, fun m b g => ?_⟩, hc⟩
  · show _ ∧ ∀ i t', _ → _ ∧ _ ≤ bd (cnt (S.pl.modify j fun l => l ++ [t]))
    rw [hc]
    rw [List.getElem?_modify] at g2
    by_cases hij : j = i
    · subst hij
      rw [h1] at g1; injection g1 with g1; subst g1
      rw [h2] at g2; simp at g2; subst g2
      obtain ⟨r1, r2⟩ := h.row j st l h1 h2
      refine ⟨by have := (List.getElem?_eq_some_iff.1 h3).1; simp; omega, fun i t' hi => ?_⟩
      by_cases hil : i < l.length
      · rw [List.getElem?_append_left hil] at hi
        have := r2 i t' hi; omega
      · have hlt := (List.getElem?_eq_some_iff.1 hi).1
        simp at hlt
        obtain rfl : i = l.length := by omega
        simp at hi
        subst hi
        exact ⟨h5, h6⟩
    · cases hp : S.pl[i]? with
      | none => rw [hp] at g2; simp at g2
      | some l0 =>
        rw [hp] at g2
        simp [hij] at g2
        subst g2
        obtain ⟨r1, r2⟩ := h.row i s l0 g1 hp
        exact ⟨r1, fun i t' hi => by have := r2 i t' hi; omega⟩
  · show _ ∧ _ ∧ _ ∧ _ ∧ _ ≤ bd (cnt (S.pl.modify j fun l => l ++ [t]))
    rw [hc]
    have g' : look (put S.last x.m ⟨j, l.length, t, x⟩) m = some b := g
    rw [look_put] at g'
    split at g'
    · rename_i hm
      injection g' with g'
      subst g'
      obtain ⟨m0, m1, x1, x2, c0, c1, d0, d1⟩ := (hv.steps j st h1).2 _ x h3
      have := hv.op0
      have := hv.cl
      exact ⟨⟨h5, by show t ≤ _; omega, by show 0 ≤ x.mi; omega, by show x.mi ≤ _; omega, d0, d1, m0, by show x.m < _; omega⟩, hm.symm, c0, c1, h6⟩
    · obtain ⟨r1, r2, r3, r4, r5⟩ := h.last m b g'
      exact ⟨r1, r2, r3, r4, by omega⟩
theorem VS.start (p : Shop) : VS p (ds0 p) := by
  refine ⟨by simp [ds0], fun j st l h1 h2 => ?_, fun m b h => by simp [ds0, look] at h⟩
  have hl : l = [] := by
    simp [ds0, List.getElem?_replicate] at h2
    exact h2.2
  subst hl
  exact ⟨Nat.zero_le _, fun i t h => by simp at h⟩
theorem cnt_start (p : Shop) : cnt (ds0 p).pl = 0 := by simp [cnt, ds0]
end Go.Proofs.Ytcpnfcnobnjhdaa
