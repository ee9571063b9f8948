/- Parts of the proofs of this seat: PullQ. Each part says what it proves; no condition beyond those stated there. -/
import Derived.Test.YtcpnfcnobnjhdaaB31

/- Pull of Pull is Pull, and the order of each machine stays: the plain law. -/
namespace Go.Proofs.Ytcpnfcnobnjhdaa
open Go Go.Sort Go.RowKit StabAt
section
variable {p : Shop} {R : List At}
/-- a plan that holds the starts of R answers with them -/
theorem refT_self (hv : VShop p) (hq : SeqOk p R) (hp : Placed p R) {O : List (List Int)} (he : ∀ c ∈ R, planAt O c.j c.k = c.t) {m : Int} {n : Nat} {b : At} (hn : (R.filter (onB m))[n]? = some b) : refT p O (R.filter (onB m)) n b = b.t := by
  obtain ⟨i, hb, hf, ht⟩ := filter_from hn
  have hm : b.x.m = m := by simpa [onB] using hf
  have hr : rdyO p O b = rdyR (R.take i) b.j := by
    unfold rdyO rdyR
    rcases hq.prev hb with ⟨g1, g2⟩ | ⟨k, g1, i', c, g2, g3, g4, g5, g6⟩
    · rw [g1, g2]
    · rw [g1, g6]
      simp only
      have hcm := List.mem_of_getElem? g3
      obtain ⟨s, q1, q2⟩ := hq.ok c hcm
      have g7 := he c hcm
      rw [g4] at q1 g7
      rw [g5] at q2 g7
      rw [stepAt_eq q1 q2, g7]
      rfl
  have hl : lastP (onB b.x.m) (R.take i) = prevI (R.filter (onB m)) n := by rw [hm]; exact lastP_prev ht hn
  have hpf : prevO p O (R.filter (onB m)) n b = fromR p (R.take i) b := by
    unfold prevO fromR
    rw [hl]
    cases n with
    | zero => exact hr
    | succ k =>
      simp only [prevI]
      cases hc : (R.filter (onB m))[k]? with
      | none => exact hr
      | some c =>
        simp only
        have hcm := (List.mem_filter.1 (List.mem_of_getElem? hc)).1
        rw [hr, show atO O c = c by unfold atO; rw [he c hcm]]
  unfold refT
  rw [hpf]
  exact (hp i b hb).1.symm
theorem SeqOk.nodup (hq : SeqOk p R) : R.Nodup := hq.asc.imp fun {a b} h he => by subst he; have := h rfl; omega
theorem planR_perm (hq : SeqOk p R) : (ats p (planR p R)).Perm R := by
  refine (List.perm_ext_iff_of_nodup (ats_seq p _).nodup hq.nodup).2 fun a => ⟨fun h => hq.of_at h, fun h => ?_⟩
  obtain ⟨s, h1, h2⟩ := hq.ok a h
  have h3 := ats_has (pl := planR p R) h1 h2
  rw [planR_eq hq h] at h3
  exact h3
theorem strict_room (hv : VShop p) {a b : At} {c : Int} (hm : 1 ≤ a.x.mi) (h : roomF p a c ≤ b.t) : a.t < b.t := by
  have := setupOf_ge hv a.x.m
  unfold roomF At.end_ at h
  split at h <;> omega
/-- the steps of a machine stand in the order in which they were put -/
theorem mach_order (hv : VShop p) (hq : SeqOk p R) (hp : Placed p R) (m : Int) : (sortA (ats p (planR p R))).filter (onB m) = R.filter (onB m) := by
  have hr := placed_right hv hq hp
  have hl := line_of hv hr
  refine List.Perm.eq_of_pairwise (le := fun a b => a.t < b.t) (fun a b _ _ h1 h2 => by omega) ?_ ?_ (((sortA_perm _).trans (planR_perm hq)).filter _)
  · rw [List.pairwise_iff_getElem]
    intro i j hi hj hij
    have hA := List.getElem?_eq_getElem hi
    have hB := List.getElem?_eq_getElem hj
    obtain ⟨u, hu, hfu, htu⟩ := filter_from hA
    obtain ⟨v, hv', hfv, htv⟩ := filter_from hB
    have huv : u < v := by
      rcases Nat.lt_trichotomy u v with h | h | h
      · exact h
      · subst h
        rw [htu] at htv
        have h1 := congrArg List.length htv
        rw [List.length_take, List.length_take] at h1
        omega
      · have h1 := congrArg List.length htu
        have h2 := congrArg List.length htv
        have h3 : ((List.take v (sortA (ats p (planR p R)))).filter (onB m)).length ≤ ((List.take u (sortA (ats p (planR p R)))).filter (onB m)).length := by
          have : List.take u (sortA (ats p (planR p R))) = List.take v (sortA (ats p (planR p R))) ++ ((sortA (ats p (planR p R))).drop v).take (u - v) := by
            rw [← List.take_add, show v + (u - v) = u by omega]
          rw [this, List.filter_append, List.length_append]; omega
        rw [List.length_take] at h1 h2
        omega
    have h1 := pair_get hl.tog huv hu hv'
    have h2 := pair_get hl.asc huv hu hv'
    have ha := hl.seq.step hv (List.mem_of_getElem? hu)
    have hb := hl.seq.step hv (List.mem_of_getElem? hv')
    generalize ((sortA (ats p (planR p R))).filter (onB m))[i] = a at *
    generalize ((sortA (ats p (planR p R))).filter (onB m))[j] = b at *
    have e1 : a.x.m = m := by simpa [onB] using hfu
    have e2 : b.x.m = m := by simpa [onB] using hfv
    unfold togB at h1
    simp only [Bool.or_eq_true, Bool.not_eq_true', decide_eq_false_iff_not, decide_eq_true_eq] at h1
    rcases h1 with (h1 | h1) | h1
    · exact absurd (e1.trans e2.symm) h1
    · exact strict_room hv ha.2.2.1 h1
    · have := strict_room hv hb.2.2.1 h1; omega
  · rw [List.pairwise_iff_getElem]
    intro i j hi hj hij
    have hA := List.getElem?_eq_getElem hi
    have hB := List.getElem?_eq_getElem hj
    obtain ⟨u, hu, hfu, htu⟩ := filter_from hA
    obtain ⟨v, hv', hfv, htv⟩ := filter_from hB
    have huv : u < v := by
      rcases Nat.lt_trichotomy u v with h | h | h
      · exact h
      · subst h
        rw [htu] at htv
        have h1 := congrArg List.length htv
        rw [List.length_take, List.length_take] at h1
        omega
      · have h1 := congrArg List.length htu
        have h2 := congrArg List.length htv
        have h3 : ((List.take v R).filter (onB m)).length ≤ ((List.take u R).filter (onB m)).length := by
          have : List.take u R = List.take v R ++ (R.drop v).take (u - v) := by
            rw [← List.take_add, show v + (u - v) = u by omega]
          rw [this, List.filter_append, List.length_append]; omega
        rw [List.length_take] at h1 h2
        omega
    have ha := hq.step hv (List.mem_of_getElem? hu)
    generalize (R.filter (onB m))[i] = a at *
    generalize (R.filter (onB m))[j] = b at *
    have e1 : a.x.m = m := by simpa [onB] using hfu
    have e2 : b.x.m = m := by simpa [onB] using hfv
    exact strict_room hv ha.2.2.1 (room_chain hv hq hp v u a b huv hu hv' (e1.trans e2.symm))
end
/-- Pull of Pull is Pull -/
theorem pull_pull {p : Shop} (hv : VShop p) {pl : List (List Int)} (hz : (judgeF p pl).2.2 = 0) : pullF p (pullF p pl) = pullF p pl := by
  have hl := line_of hv (right_of hz)
  have hq := (pull_alike p _).seq hl.seq
  have hp := pull_placed hv hl
  have hz2 := pull_judge hv hz
  have hl2 := line_of hv (right_of hz2)
  have ha2 := pull_alike p (sortA (ats p (pullF p pl)))
  have hq2 := ha2.seq hl2.seq
  have hp2 := pull_placed hv hl2
  show planR p (pullL p [] (sortA (ats p (pullF p pl)))) = planR p (pullL p [] (sortA (ats p pl)))
  have hmo : ∀ m, (sortA (ats p (pullF p pl))).filter (onB m) = (pullL p [] (sortA (ats p pl))).filter (onB m) := mach_order hv hq hp
  have hval : ∀ b ∈ pullL p [] (sortA (ats p pl)), planAt (pullF p pl) b.j b.k = b.t := fun b hb => planR_eq hq hb
  have hle2 : ∀ b ∈ pullL p [] (sortA (ats p pl)), planAt (planR p (pullL p [] (sortA (ats p (pullF p pl))))) b.j b.k ≤ b.t := fun b hb => by
    obtain ⟨s, h1, h2⟩ := hq.ok b hb
    have := pull_at hv hz2 h1 h2
    rw [hval b hb] at this
    exact this
  generalize pullL p [] (sortA (ats p pl)) = R at *
  generalize hR2 : pullL p [] (sortA (ats p (pullF p pl))) = R2 at *
  have h0 : ∀ b ∈ R2, 0 ≤ b.t := fun b hb => by
    obtain ⟨i, hi⟩ := List.getElem?_of_mem hb
    exact (hp2 i b hi).2.1
  have hok : OutOk p R (planR p R2) := by
    refine ⟨planR_len p R2, fun j s l hj hl' => ?_, fun b hb => ⟨?_, hle2 b hb⟩⟩
    · rw [planR_row hj] at hl'
      injection hl' with hl'
      rw [← hl']; simp
    · obtain ⟨s, h1, h2⟩ := hq.ok b hb
      obtain ⟨b2, hb2, e1, e2⟩ := hq2.all b.j b.k s b.x h1 h2
      have h3 := planR_eq hq2 hb2
      rw [e1, e2] at h3
      rw [h3]
      exact h0 b2 hb2
  refine hok.eq hv hq (refT_done hv hq hp hok fun m _ n b hn => ?_)
  -- the same order on the machine in R2
  have hk : (R2.filter (onB (m : Int))).map key = (R.filter (onB (m : Int))).map key := by
    rw [← filter_keys (m := (m : Int)) ha2.keys, hmo]
  obtain ⟨b2, hb2, e1, e2, e3⟩ := keys_get hk.symm hn
  have h1 := refT_self hv hq2 hp2 (O := planR p R2) (fun c hc => planR_eq hq2 hc) hb2
  have h2 := refT_key (O := planR p R2) (p := p) hk.symm e1 e2 e3 n
  have h3 := planR_eq hq2 (List.mem_filter.1 (List.mem_of_getElem? hb2)).1
  rw [e1, e2] at h3
  rw [h2, h1, h3]
  exact Int.le_refl _
theorem map_pairs {l R : List At} (h : l.map key = R.map key) : l.map (fun a => (a.j, a.k)) = R.map fun a => (a.j, a.k) := by
  have := congrArg (List.map fun q : Nat × Nat × Step => (q.1, q.2.1)) h
  simpa [List.map_map, Function.comp_def, key] using this
/-- the order on a machine, before and after -/
theorem order_same {p : Shop} (hv : VShop p) {pl : List (List Int)} (hz : (judgeF p pl).2.2 = 0) (m : Int) : (sortA (onM (ats p (pullF p pl)) m)).map key = (sortA (onM (ats p pl) m)).map key := by
  have hl := line_of hv (right_of hz)
  have hq := (pull_alike p _).seq hl.seq
  have hp := pull_placed hv hl
  have h1 := mach_order hv hq hp m
  have h2 := filter_keys (m := m) (pull_alike p (sortA (ats p pl))).keys
  have e1 : ∀ l : List At, sortA (onM l m) = (sortA l).filter (onB m) := fun l => (sortA_filter _ _).symm
  rw [e1, e1]
  rw [h2]
  exact congrArg (List.map key) h1
end Go.Proofs.Ytcpnfcnobnjhdaa
