/- The least plan that goes on from a beginning: the plain law of the reference's search. -/
import Derived.Test.YtfhlopegmfdkpaaNPlan
namespace Go.Proofs.Ytfhlopegmfdkpaa
/-- a beginning of a plan that is right -/
def PreOk (C : List (List Int)) (cap P : List Int) : Prop := P.length ≤ C.length ∧ Pl (C.take P.length) cap P
def Ext (P N : List Int) : Prop := ∀ i, i < P.length → N[i]? = P[i]?
structure BestOf (C : List (List Int)) (cap P N : List Int) : Prop where
  pl : Pl C cap N
  pre : Ext P N
  most : ∀ N', Pl C cap N' → Ext P N' → doneN N' ≤ doneN N
  least : ∀ (i : Nat), P.length ≤ i → ∀ v, N[i]? = some v → ∀ k : Nat, v = -1 ∨ (k : Int) < v → NoPlan C cap N (doneN N) i k
section
variable {C : List (List Int)} {cap P N : List Int}
theorem BestOf.best (h : BestOf C cap [] N) : IsBest C cap N := ⟨h.pl, fun N' h' => h.most N' h' fun i hi => absurd hi (Nat.not_lt_zero _), fun i v hv k hk => h.least i (Nat.zero_le _) v hv k hk⟩
theorem Ext.snoc {x : Int} (h : Ext (P ++ [x]) N) : Ext P N ∧ N[P.length]? = some x := by
  refine ⟨fun i hi => ?_, ?_⟩
  · rw [h i (by simp; omega), List.getElem?_append_left hi]
  · rw [h P.length (by simp), List.getElem?_append_right (Nat.le_refl _)]; simp
theorem Ext.mk_snoc {x : Int} (h : Ext P N) (hx : N[P.length]? = some x) : Ext (P ++ [x]) N := fun i hi => by
  simp only [List.length_append, List.length_cons, List.length_nil] at hi
  rcases Nat.lt_or_ge i P.length with h1 | h1
  · rw [h i h1, List.getElem?_append_left h1]
  · obtain rfl : i = P.length := by omega
    rw [hx, List.getElem?_append_right (Nat.le_refl _)]; simp
theorem Ext.take (h : Ext P N) (hl : P.length ≤ N.length) : N.take P.length = P := List.ext_getElem? fun i => by
  rw [List.getElem?_take]
  split
  · exact h i (by assumption)
  · rw [List.getElem?_eq_none (by omega)]
theorem pre_of_ext (h : Pl C cap N) (he : Ext P N) (hl : P.length ≤ C.length) : PreOk C cap P := by
  have ht := he.take (by rw [h.len]; exact hl)
  refine ⟨hl, by rw [List.length_take]; omega, fun i v hv => ?_, fun k hk => ?_⟩
  · have hi := (List.getElem?_eq_some_iff.1 hv).1
    rcases h.ok i v (by rw [he i hi]; exact hv) with h1 | ⟨k, h1, h2, h3⟩
    · exact .inl h1
    · refine .inr ⟨k, h1, h2, fun l hl' => h3 l ?_⟩
      rw [List.getElem?_take, if_pos hi] at hl'
      exact hl'
  · have h1 := h.cnt k hk
    have h2 : cntN P k ≤ cntN N k := by
      unfold cntN
      have := List.Sublist.count_le (a := (k : Int)) (List.take_sublist P.length N)
      rw [ht] at this
      omega
    omega
theorem PreOk.none_ (h : PreOk C cap P) (hl : P.length < C.length) : PreOk C cap (P ++ [-1]) := by
  obtain ⟨_, h0, h1, h2⟩ := h
  refine ⟨by simp; omega, by simp; omega, fun i v hv => ?_, fun k hk => ?_⟩
  · rcases Nat.lt_or_ge i P.length with hi | hi
    · rw [List.getElem?_append_left hi] at hv
      rcases h1 i v hv with h3 | ⟨k, h3, h4, h5⟩
      · exact .inl h3
      · refine .inr ⟨k, h3, h4, fun l hl' => h5 l ?_⟩
        rw [List.getElem?_take, if_pos hi]
        rw [List.getElem?_take] at hl'
        split at hl'
        · exact hl'
        · cases hl'
    · rw [List.getElem?_append_right hi] at hv
      have : i - P.length = 0 := by
        have := (List.getElem?_eq_some_iff.1 hv).1
        simp at this; omega
      rw [this] at hv
      simp at hv
      exact .inl hv.symm
  · have h3 := h2 k hk
    unfold cntN at *
    rw [List.count_append]
    have : ([-1] : List Int).count (k : Int) = 0 := List.count_eq_zero.2 (by simp)
    omega
theorem BestOf.full (h : PreOk C cap P) (hl : P.length = C.length) : BestOf C cap P P := by
  have h1 := h.2
  rw [hl, List.take_length] at h1
  refine ⟨h1, fun _ _ => rfl, fun N' g ge => ?_, fun i hi v hv => ?_⟩
  · have : N' = P := by
      have := ge.take (by rw [g.len]; omega)
      rw [← this, List.take_of_length_le (by rw [g.len]; omega)]
    rw [this]; exact Nat.le_refl _
  · rw [List.getElem?_eq_none hi] at hv; cases hv
/-- what the choices V for the next job have shown -/
def Tried (C : List (List Int)) (cap P : List Int) (V : Int → Prop) : Option (List Int) → Prop
  | none => ∀ v N', V v → Pl C cap N' → ¬ Ext (P ++ [v]) N'
  | some N => ∃ v, V v ∧ BestOf C cap (P ++ [v]) N ∧ (∀ v' N', V v' → Pl C cap N' → Ext (P ++ [v']) N' → doneN N' ≤ doneN N) ∧
      ∀ v' N', V v' → (0 ≤ v' ∧ (v = -1 ∨ v' < v)) → Pl C cap N' → Ext (P ++ [v']) N' → doneN N' < doneN N
theorem Tried.start {V : Int → Prop} (h : ∀ v, ¬ V v) : Tried C cap P V none := fun v _ hv => absurd hv (h v)
theorem Tried.skip {V V' : Int → Prop} {x : Int} {o : Option (List Int)} (h : Tried C cap P V o) (hV : ∀ v, V' v ↔ V v ∨ v = x) (hx : ¬ PreOk C cap (P ++ [x])) (hl : P.length < C.length) : Tried C cap P V' o := by
  have hno : ∀ N', Pl C cap N' → ¬ Ext (P ++ [x]) N' := fun N' g ge => hx (pre_of_ext g ge (by simp; omega))
  cases o with
  | none =>
    intro v N' hv g ge
    rcases (hV v).1 hv with h1 | rfl
    · exact h v N' h1 g ge
    · exact hno N' g ge
  | some N =>
    obtain ⟨v, h1, h2, h3, h4⟩ := h
    refine ⟨v, (hV v).2 (.inl h1), h2, fun v' N' hv g ge => ?_, fun v' N' hv hb g ge => ?_⟩
    · rcases (hV v').1 hv with h5 | rfl
      · exact h3 v' N' h5 g ge
      · exact absurd ge (hno N' g)
    · rcases (hV v').1 hv with h5 | rfl
      · exact h4 v' N' h5 hb g ge
      · exact absurd ge (hno N' g)
theorem Tried.first {V V' : Int → Prop} {x : Int} {F : List Int} (h : Tried C cap P V none) (hV : ∀ v, V' v ↔ V v ∨ v = x) (hF : BestOf C cap (P ++ [x]) F) : Tried C cap P V' (some F) := by
  refine ⟨x, (hV x).2 (.inr rfl), hF, fun v' N' hv g ge => ?_, fun v' N' hv hb g ge => ?_⟩
  · rcases (hV v').1 hv with h5 | rfl
    · exact absurd ge (h v' N' h5 g)
    · exact hF.most N' g ge
  · rcases (hV v').1 hv with h5 | rfl
    · exact absurd ge (h v' N' h5 g)
    · omega
theorem Tried.more {V V' : Int → Prop} {x : Int} {N F : List Int} (h : Tried C cap P V (some N)) (hV : ∀ v, V' v ↔ V v ∨ v = x) (hF : BestOf C cap (P ++ [x]) F) (hd : doneN N < doneN F) : Tried C cap P V' (some F) := by
  obtain ⟨v, h1, h2, h3, h4⟩ := h
  refine ⟨x, (hV x).2 (.inr rfl), hF, fun v' N' hv g ge => ?_, fun v' N' hv hb g ge => ?_⟩
  · rcases (hV v').1 hv with h5 | rfl
    · have := h3 v' N' h5 g ge; omega
    · exact hF.most N' g ge
  · rcases (hV v').1 hv with h5 | rfl
    · have := h3 v' N' h5 g ge; omega
    · omega
theorem Tried.less {V V' : Int → Prop} {x : Int} {N F : List Int} (h : Tried C cap P V (some N)) (hV : ∀ v, V' v ↔ V v ∨ v = x) (hx : ∀ v, V v → 0 ≤ v ∧ (x = -1 ∨ v < x)) (hF : BestOf C cap (P ++ [x]) F) (hd : ¬ doneN N < doneN F) : Tried C cap P V' (some N) := by
  obtain ⟨v, h1, h2, h3, h4⟩ := h
  refine ⟨v, (hV v).2 (.inl h1), h2, fun v' N' hv g ge => ?_, fun v' N' hv hb g ge => ?_⟩
  · rcases (hV v').1 hv with h5 | rfl
    · exact h3 v' N' h5 g ge
    · have := hF.most N' g ge; omega
  · rcases (hV v').1 hv with h5 | rfl
    · exact h4 v' N' h5 hb g ge
    · have := hx v h1; omega
/-- all nights and none have been tried -/
theorem Tried.done {N : List Int} (h : Tried C cap P (fun v => v = -1 ∨ (0 ≤ v ∧ v < cap.length)) (some N)) (hl : P.length < C.length) : BestOf C cap P N := by
  obtain ⟨v, h1, h2, h3, h4⟩ := h
  have hval : ∀ N', Pl C cap N' → ∃ v', N'[P.length]? = some v' ∧ (v' = -1 ∨ (0 ≤ v' ∧ v' < cap.length)) := fun N' g => by
    have hlt : P.length < N'.length := by rw [g.len]; exact hl
    refine ⟨_, List.getElem?_eq_getElem hlt, ?_⟩
    rcases g.ok P.length _ (List.getElem?_eq_getElem hlt) with h5 | ⟨k, h5, h6, _⟩
    · exact .inl h5
    · exact .inr (by omega)
  refine ⟨h2.pl, h2.pre.snoc.1, fun N' g ge => ?_, fun i hi u hu k hk => ?_⟩
  · obtain ⟨v', e1, e2⟩ := hval N' g
    exact h3 v' N' e2 g (ge.mk_snoc e1)
  · rcases Nat.eq_or_lt_of_le hi with rfl | hlt
    · have hvu : u = v := by have := h2.pre.snoc.2; rw [hu] at this; injection this
      subst hvu
      intro N' g gk gf
      obtain ⟨v', e1, e2⟩ := hval N' g
      have : v' = (k : Int) := by rw [gk] at e1; injection e1 with e1; exact e1.symm
      subst this
      refine h4 _ N' e2 ⟨by omega, hk⟩ g (Ext.mk_snoc (fun i hi => ?_) gk)
      rw [gf i hi]; exact h2.pre.snoc.1 i hi
    · exact h2.least i (by simp; omega) u hu k hk
end
end Go.Proofs.Ytfhlopegmfdkpaa
