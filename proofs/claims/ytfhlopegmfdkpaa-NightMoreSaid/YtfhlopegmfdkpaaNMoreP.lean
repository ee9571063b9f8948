/- One more night, job, place, day: the plain law of Most. -/
import Derived.Test.YtfhlopegmfdkpaaNBoundP
namespace Go.Proofs.Ytfhlopegmfdkpaa
theorem doneN_set_le (N : List Int) (q : Nat) : doneN N ≤ doneN (N.set q (-1)) + 1 := by
  unfold doneN
  induction N generalizing q with
  | nil => simp
  | cons v r ih =>
    cases q with
    | zero =>
      rw [List.set_cons_zero, List.countP_cons, List.countP_cons]
      have : decide ((0 : Int) ≤ -1) = false := by decide
      rw [this]
      simp only [Bool.false_eq_true, if_false]
      split <;> omega
    | succ q =>
      rw [List.set_cons_succ, List.countP_cons, List.countP_cons]
      have := ih q
      omega
theorem doneN_app (N : List Int) (v : Int) : doneN (N ++ [v]) = doneN N + if 0 ≤ v then 1 else 0 := by
  unfold doneN
  rw [List.countP_append, List.countP_cons]
  by_cases h : 0 ≤ v <;> simp [h]
theorem cntN_app (N : List Int) (v : Int) (k : Nat) : cntN (N ++ [v]) k = cntN N k + if v = (k : Int) then 1 else 0 := by
  unfold cntN
  rw [List.count_append]
  by_cases h : v = (k : Int)
  · simp [h]
  · rw [if_neg h, List.count_cons, if_neg (by simpa using h)]; simp
theorem cntN_none {C : List (List Int)} {cap N : List Int} (h : Pl C cap N) {k : Nat} (hk : cap.length ≤ k) : cntN N k = 0 := by
  unfold cntN
  rw [List.count_eq_zero.2]
  · rfl
  · intro hm
    obtain ⟨i, hi⟩ := List.getElem?_of_mem hm
    rcases h.ok i _ hi with h1 | ⟨q, h1, h2, _⟩ <;> omega
/-- a plan stays one where the choices and the places grow -/
theorem Pl.grow {C C' : List (List Int)} {cap cap' N : List Int} (h : Pl C cap N) (hl : C'.length = C.length) (hc : ∀ (i : Nat) l l', C[i]? = some l → C'[i]? = some l' → ∀ k : Nat, (k : Int) ∈ l → (k : Int) ∈ l') (hcl : cap.length ≤ cap'.length) (hcap : ∀ k, k < cap.length → cap.getD k 0 ≤ cap'.getD k 0) (h0 : ∀ k, 0 ≤ cap'.getD k 0) : Pl C' cap' N := by
  refine ⟨h.len.trans hl.symm, fun i v hv => ?_, fun k hk => ?_⟩
  · rcases h.ok i v hv with h1 | ⟨k, h1, h2, h3⟩
    · exact .inl h1
    · refine .inr ⟨k, h1, by omega, fun l' hl' => ?_⟩
      have hi : i < C.length := by rw [← h.len]; exact (List.getElem?_eq_some_iff.1 hv).1
      exact hc i _ l' (List.getElem?_eq_getElem hi) hl' k (h3 _ (List.getElem?_eq_getElem hi))
  · rcases Nat.lt_or_ge k cap.length with h1 | h1
    · have := h.cnt k h1
      have := hcap k h1
      omega
    · rw [cntN_none h h1]; exact h0 k
/-- .. and where one job's night is taken away, if it was that job alone that did not fit -/
theorem Pl.less {C C' : List (List Int)} {cap cap' N : List Int} (h : Pl C' cap' N) {q : Nat} (hl : C'.length = C.length) (hcl : cap'.length = cap.length) (hc : ∀ (i : Nat) l l', i ≠ q → C[i]? = some l → C'[i]? = some l' → ∀ k : Nat, (k : Int) ∈ l' → (k : Int) ∈ l) (hcap : ∀ k, k < cap.length → cntN (N.set q (-1)) k ≤ cap.getD k 0) : Pl C cap (N.set q (-1)) := by
  refine ⟨by rw [List.length_set, h.len, hl], fun i v hv => ?_, hcap⟩
  by_cases hi : q = i
  · subst hi
    rw [List.getElem?_set] at hv
    simp only [if_true] at hv
    split at hv
    · injection hv with hv; exact .inl hv.symm
    · cases hv
  · rw [List.getElem?_set_ne hi] at hv
    rcases h.ok i v hv with h1 | ⟨k, h1, h2, h3⟩
    · exact .inl h1
    · refine .inr ⟨k, h1, by omega, fun l hl' => ?_⟩
      have hi' : i < C'.length := by rw [← h.len]; exact (List.getElem?_eq_some_iff.1 hv).1
      exact hc i l _ (Ne.symm hi) hl' (List.getElem?_eq_getElem hi') k (h3 _ (List.getElem?_eq_getElem hi'))
theorem cntN_set_le (N : List Int) (q k : Nat) : cntN (N.set q (-1)) k ≤ cntN N k := by
  by_cases hq : q < N.length
  · rw [cntN_set (List.getElem?_eq_getElem hq)]
    have : ¬ ((-1 : Int) = (k : Int)) := by omega
    rw [if_neg this]
    split <;> omega
  · rw [List.set_eq_of_length_le (by omega)]; exact Int.le_refl _
theorem cap_len (ns : List Nit) : (capOf ns).length = ns.length := by simp [capOf]
theorem cap_get {ns : List Nit} {k : Nat} {n : Nit} (h : ns[k]? = some n) : (capOf ns).getD k 0 = n.pl := getD_some (by unfold capOf; rw [List.getElem?_map, h]; rfl)
theorem choose_len (ns : List Nit) (js : List Job) : (chooseL ns js).length = js.length := by simp [chooseL]
theorem choose_at {ns : List Nit} {js : List Job} {i : Nat} {j : Job} (h : js[i]? = some j) : (chooseL ns js)[i]? = some (chooseF ns j) := by unfold chooseL; rw [List.getElem?_map, h]; rfl
/-- one more night -/
theorem more_night {ns : List Nit} {js : List Job} {x : Nit} {n m : Nat} (h : IsMost (chooseL ns js) (capOf ns) n) (hcap : CapOk (capOf (ns ++ [x]))) (g : IsMost (chooseL (ns ++ [x]) js) (capOf (ns ++ [x])) m) : n ≤ m := by
  obtain ⟨N, h1, rfl⟩ := h.some_
  refine g.most N (h1.grow (by rw [choose_len, choose_len]) (fun i l l' hl hl' k hk => ?_) (by rw [cap_len, cap_len]; simp) (fun k hk => ?_) fun k => (hcap.getD_ k).1)
  · obtain ⟨j, hj, rfl⟩ := chooseL_get hl
    obtain ⟨j', hj', rfl⟩ := chooseL_get hl'
    rw [hj] at hj'
    injection hj' with hj'
    subst hj'
    obtain ⟨q, y, h2, h3, h4⟩ := chooseF_mem.1 hk
    refine chooseF_mem.2 ⟨q, y, h2, ?_, h4⟩
    rw [List.getElem?_append_left (List.getElem?_eq_some_iff.1 h3).1]; exact h3
  · rw [cap_len] at hk
    have hy : ns[k]? = some ns[k] := List.getElem?_eq_getElem hk
    rw [cap_get hy, cap_get (n := ns[k]) (by rw [List.getElem?_append_left hk]; exact hy)]
    exact Int.le_refl _
/-- one more job -/
theorem more_job {ns : List Nit} {js : List Job} {j : Job} {n m : Nat} (h : IsMost (chooseL ns js) (capOf ns) n) (g : IsMost (chooseL ns (js ++ [j])) (capOf ns) m) : n ≤ m ∧ m ≤ n + 1 := by
  have hC : chooseL ns (js ++ [j]) = chooseL ns js ++ [chooseF ns j] := by simp [chooseL]
  constructor
  · obtain ⟨N, h1, rfl⟩ := h.some_
    have h2 : Pl (chooseL ns (js ++ [j])) (capOf ns) (N ++ [-1]) := by
      refine ⟨by rw [hC, List.length_append, List.length_append, h1.len]; rfl, fun i v hv => ?_, fun k hk => ?_⟩
      · rcases Nat.lt_or_ge i N.length with hi | hi
        · rw [List.getElem?_append_left hi] at hv
          rcases h1.ok i v hv with e | ⟨k, e1, e2, e3⟩
          · exact .inl e
          · refine .inr ⟨k, e1, e2, fun l hl => e3 l ?_⟩
            rw [hC, List.getElem?_append_left (by rw [← h1.len]; exact hi)] at hl
            exact hl
        · rw [List.getElem?_append_right hi] at hv
          left
          have := List.mem_of_getElem? hv
          simpa using this
      · rw [cntN_app, if_neg (by omega)]
        have := h1.cnt k hk
        omega
    have := g.most _ h2
    rw [doneN_app, if_neg (by omega)] at this
    omega
  · obtain ⟨N, h1, rfl⟩ := g.some_
    have hNl : N.length = js.length + 1 := by rw [h1.len, choose_len]; simp
    obtain ⟨M, v, rfl⟩ : ∃ M v, N = M ++ [v] := by
      refine ⟨N.take js.length, N[js.length], ?_⟩
      have e := List.drop_eq_getElem_cons (l := N) (i := js.length) (by omega)
      rw [List.drop_eq_nil_of_le (i := js.length + 1) (by omega)] at e
      rw [← e, List.take_append_drop]
    have hMl : M.length = js.length := by rw [List.length_append] at hNl; simpa using hNl
    have h2 : Pl (chooseL ns js) (capOf ns) M := by
      refine ⟨by rw [choose_len, hMl], fun i u hu => ?_, fun k hk => ?_⟩
      · have hi := (List.getElem?_eq_some_iff.1 hu).1
        rcases h1.ok i u (by rw [List.getElem?_append_left hi]; exact hu) with e | ⟨k, e1, e2, e3⟩
        · exact .inl e
        · exact .inr ⟨k, e1, e2, fun l hl => e3 l (by rw [hC, List.getElem?_append_left (by rw [choose_len, ← hMl]; exact hi)]; exact hl)⟩
      · have := h1.cnt k hk
        rw [cntN_app] at this
        split at this <;> omega
    have := h.most M h2
    rw [doneN_app]
    split <;> omega
/-- one more place -/
theorem more_place {ns : List Nit} {js : List Job} {q : Nat} {x x' : Nit} {n m : Nat} (hx : ns[q]? = some x) (hf : ∀ j, fitsF j x' = fitsF j x) (hp : x.pl ≤ x'.pl ∧ x'.pl ≤ x.pl + 1) (hp0 : 0 ≤ x.pl) (h : IsMost (chooseL ns js) (capOf ns) n) (hcap : CapOk (capOf (ns.set q x'))) (g : IsMost (chooseL (ns.set q x') js) (capOf (ns.set q x')) m) : n ≤ m ∧ m ≤ n + 1 := by
  have hql := (List.getElem?_eq_some_iff.1 hx).1
  have hCF : ∀ j, chooseF (ns.set q x') j = chooseF ns j := fun j => by
    unfold chooseF
    have : (ns.set q x').zipIdx = ns.zipIdx.set q (x', q) := by
      refine List.ext_getElem? fun i => ?_
      rw [List.getElem?_zipIdx, List.getElem?_set, List.getElem?_set, List.getElem?_zipIdx]
      by_cases e : q = i
      · subst e; simp [hql]
      · simp [e]
    rw [this]
    have key : ∀ (L : List (Nit × Nat)) (q : Nat) (a b : Nit × Nat), L[q]? = some a → a.2 = b.2 → fitsF j b.1 = fitsF j a.1 → ((L.set q b).filter fun q => fitsF j q.1).map (fun q => (q.2 : Int)) = (L.filter fun q => fitsF j q.1).map fun q => (q.2 : Int) := by
      intro L
      induction L with
      | nil => intro q a b h; simp at h
      | cons y L ih =>
        intro q a b h1 h2 h3
        cases q with
        | zero =>
          simp at h1
          subst h1
          rw [List.set_cons_zero, List.filter_cons, List.filter_cons, h3]
          split <;> simp [h2]
        | succ q =>
          simp at h1
          rw [List.set_cons_succ, List.filter_cons, List.filter_cons]
          split
          · rw [List.map_cons, List.map_cons, ih q a b h1 h2 h3]
          · exact ih q a b h1 h2 h3
    exact key ns.zipIdx q (x, q) (x', q) (by rw [List.getElem?_zipIdx, hx]; simp) rfl (hf j)
  have hC : chooseL (ns.set q x') js = chooseL ns js := by
    unfold chooseL
    exact List.map_congr_left fun j _ => hCF j
  rw [hC] at g
  have hcl : (capOf (ns.set q x')).length = (capOf ns).length := by rw [cap_len, cap_len, List.length_set]
  have hget : ∀ k, k ≠ q → (capOf (ns.set q x')).getD k 0 = (capOf ns).getD k 0 := fun k hk => by
    unfold capOf
    rw [List.getD_eq_getElem?_getD, List.getD_eq_getElem?_getD, List.getElem?_map, List.getElem?_map, List.getElem?_set_ne (Ne.symm hk)]
  have hq1 : (capOf (ns.set q x')).getD q 0 = x'.pl := cap_get (List.getElem?_set_self hql)
  have hq2 : (capOf ns).getD q 0 = x.pl := cap_get hx
  constructor
  · obtain ⟨N, h1, rfl⟩ := h.some_
    refine g.most N (h1.grow rfl (fun i l l' hl hl' k hk => ?_) (by omega) (fun k hk => ?_) fun k => (hcap.getD_ k).1)
    · rw [hl] at hl'; injection hl' with hl'; rw [← hl']; exact hk
    · by_cases e : k = q
      · subst e; rw [hq1, hq2]; exact hp.1
      · rw [hget k e]; exact Int.le_refl _
  · obtain ⟨N, h1, rfl⟩ := g.some_
    by_cases hc : cntN N q ≤ x.pl
    · have h2 : Pl (chooseL ns js) (capOf ns) N := ⟨h1.len, fun i v hv => by
        rcases h1.ok i v hv with e | ⟨k, e1, e2, e3⟩
        · exact .inl e
        · exact .inr ⟨k, e1, by omega, e3⟩, fun k hk => by
        by_cases e : k = q
        · subst e; rw [hq2]; exact hc
        · have := h1.cnt k (by omega)
          rw [hget k e] at this; exact this⟩
      have := h.most N h2
      omega
    · have h0 : 0 < N.count (q : Int) := by
        unfold cntN at hc
        omega
      obtain ⟨i, hi⟩ := List.getElem?_of_mem (List.count_pos_iff.1 h0)
      have h2 : Pl (chooseL ns js) (capOf ns) (N.set i (-1)) := h1.less rfl hcl (fun a l l' _ hl hl' k hk => by rw [hl] at hl'; injection hl' with hl'; rw [hl']; exact hk) fun k hk => by
        rw [cntN_set hi]
        have h3 := h1.cnt k (by omega)
        have e2 : ¬ ((-1 : Int) = (k : Int)) := by omega
        rw [if_neg e2]
        by_cases e : k = q
        · subst e
          rw [if_pos rfl, hq2]
          rw [hq1] at h3
          omega
        · have e3 : ¬ ((q : Int) = (k : Int)) := by omega
          rw [if_neg e3]
          rw [hget k e] at h3
          omega
      have := h.most _ h2
      have := doneN_set_le N i
      omega
/-- a day more for a job -/
theorem more_day {ns : List Nit} {js : List Job} {q : Nat} {x x' : Job} {n m : Nat} (hx : js[q]? = some x) (hf : ∀ y, fitsF x y = true → fitsF x' y = true) (hcap : CapOk (capOf ns)) (h : IsMost (chooseL ns js) (capOf ns) n) (g : IsMost (chooseL ns (js.set q x')) (capOf ns) m) : n ≤ m ∧ m ≤ n + 1 := by
  have hql := (List.getElem?_eq_some_iff.1 hx).1
  have hoth : ∀ i, i ≠ q → (chooseL ns (js.set q x'))[i]? = (chooseL ns js)[i]? := fun i hi => by
    unfold chooseL
    rw [List.getElem?_map, List.getElem?_map, List.getElem?_set_ne (Ne.symm hi)]
  have hl : (chooseL ns (js.set q x')).length = (chooseL ns js).length := by rw [choose_len, choose_len, List.length_set]
  constructor
  · obtain ⟨N, h1, rfl⟩ := h.some_
    refine g.most N (h1.grow hl (fun i l l' e1 e2 k hk => ?_) (Nat.le_refl _) (fun k _ => Int.le_refl _) fun k => (hcap.getD_ k).1)
    by_cases e : i = q
    · subst e
      rw [choose_at hx] at e1
      rw [choose_at (List.getElem?_set_self hql)] at e2
      injection e1 with e1
      injection e2 with e2
      subst e1 e2
      obtain ⟨k', y, a1, a2, a3⟩ := chooseF_mem.1 hk
      exact chooseF_mem.2 ⟨k', y, a1, a2, hf y a3⟩
    · rw [hoth i e, e1] at e2
      injection e2 with e2
      rw [← e2]; exact hk
  · obtain ⟨N, h1, rfl⟩ := g.some_
    have h2 : Pl (chooseL ns js) (capOf ns) (N.set q (-1)) := h1.less hl rfl (fun i l l' hi e1 e2 k hk => by
      rw [hoth i hi, e1] at e2
      injection e2 with e2
      rw [e2]; exact hk) fun k hk => Int.le_trans (cntN_set_le N q k) (h1.cnt k hk)
    have := h.most _ h2
    have := doneN_set_le N q
    omega
end Go.Proofs.Ytfhlopegmfdkpaa
