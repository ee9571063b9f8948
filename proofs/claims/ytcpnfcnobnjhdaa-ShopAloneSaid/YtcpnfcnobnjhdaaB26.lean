/- Parts of the proofs of this seat: PullP. Each part says what it proves; no condition beyond those stated there. -/
import Derived.Test.YtcpnfcnobnjhdaaB22
import Derived.Test.YtcpnfcnobnjhdaaB24
import Derived.Test.YtcpnfcnobnjhdaaB25

/- Pull: the plain law. -/
namespace Go.Proofs.Ytcpnfcnobnjhdaa
open Go Go.Sort Go.RowKit StabAt
/-- the steps l, each put as early as can be behind R -/
noncomputable def pullL (p : Shop) : List At → List At → List At
  | _, [] => []
  | R, a :: l => ⟨a.j, a.k, startF p R a, a.x⟩ :: pullL p (R ++ [⟨a.j, a.k, startF p R a, a.x⟩]) l
theorem pullL_len {p : Shop} : ∀ (l R : List At), (pullL p R l).length = l.length
  | [], _ => rfl
  | a :: l, R => by simp [pullL, pullL_len l]
theorem pullL_get {p : Shop} : ∀ (l R : List At) (i : Nat) (a : At), l[i]? = some a → (pullL p R l)[i]? = some ⟨a.j, a.k, startF p (R ++ (pullL p R l).take i) a, a.x⟩
  | [], _, i, a, h => by simp at h
  | b :: l, R, 0, a, h => by
    simp at h; subst h
    simp [pullL]
  | b :: l, R, i + 1, a, h => by
    have := pullL_get (p := p) l (R ++ [⟨b.j, b.k, startF p R b, b.x⟩]) i a (by simpa using h)
    simp only [pullL, List.getElem?_cons_succ, List.take_succ_cons]
    rw [this, List.append_assoc]
    rfl
/-- the order in which a right plan is made earlier -/
structure Line (p : Shop) (l : List At) : Prop where
  seq : SeqOk p l
  asc : AscT l
  tog : l.Pairwise fun a b => togB p a b = true
  shift : ∀ a ∈ l, shiftB p a.t a.x.mi = true
  early : ∀ a ∈ l, ∀ b ∈ l, a.j = b.j → b.k = a.k + 1 → a.dry ≤ b.t
  t0 : ∀ a ∈ l, 0 ≤ a.t ∧ a.t ≤ 100000000
theorem RightP.steps {p : Shop} (hv : VShop p) {pl : List (List Int)} (h : RightP p pl) {j : Nat} {s : List Step} (hs : p.jobs[j]? = some s) : ∀ (n k : Nat), k + n + 1 < s.length → planAt pl j k < planAt pl j (k + n + 1)
  | 0, k, hk => by
    have h1 : s[k]? = some (s[k]'(by omega)) := List.getElem?_eq_getElem _
    have h2 : s[k + 1]? = some (s[k + 1]'(by omega)) := List.getElem?_eq_getElem _
    have h3 := h.next hs h1 h2
    have h4 := (hv.steps j s hs).2 k _ h1
    show planAt pl j k < planAt pl j (k + 1)
    omega
  | n + 1, k, hk => by
    have ih := RightP.steps hv h hs n k (by omega)
    have h1 : s[k + n + 1]? = some (s[k + n + 1]'(by omega)) := List.getElem?_eq_getElem _
    have h2 : s[k + n + 1 + 1]? = some (s[k + n + 1 + 1]'(by omega)) := List.getElem?_eq_getElem _
    have h3 := h.next hs h1 h2
    have h4 := (hv.steps j s hs).2 _ _ h1
    show planAt pl j k < planAt pl j (k + n + 1 + 1)
    omega
theorem line_of {p : Shop} (hv : VShop p) {pl : List (List Int)} (h : RightP p pl) : Line p (sortA (ats p pl)) := by
  have hpm := sortA_perm (ats p pl)
  have hsq := ats_seq p pl
  have hasc := sortA_asc (ats p pl)
  have hd : (sortA (ats p pl)).Pairwise fun a b => a.j ≠ b.j ∨ a.k ≠ b.k :=
    ((ats_asc p pl).imp (S := fun a b => a.j ≠ b.j ∨ a.k ≠ b.k) fun {a b} h => by omega).perm hpm.symm fun {x y} h => by rcases h with h | h <;> simp [Ne.symm h]
  refine ⟨⟨fun a ha => hsq.ok a (hpm.mem_iff.1 ha), ?_, fun j k s x h1 h2 => ?_⟩, hasc, h.clash.perm hpm.symm fun {x y} h => togB_symm h, fun a ha => h.shift a (hpm.mem_iff.1 ha), fun a ha b hb hj hk => ?_, fun a ha => ?_⟩
  · rw [List.pairwise_iff_getElem]
    intro i i' hi hi' hlt hj
    have h1 := pair_get hasc hlt (List.getElem?_eq_getElem hi) (List.getElem?_eq_getElem hi')
    have h2 := pair_get hd hlt (List.getElem?_eq_getElem hi) (List.getElem?_eq_getElem hi')
    have ma := hpm.mem_iff.1 (List.getElem_mem hi)
    have mb := hpm.mem_iff.1 (List.getElem_mem hi')
    generalize (sortA (ats p pl))[i] = a at *
    generalize (sortA (ats p pl))[i'] = b at *
    rcases Nat.lt_trichotomy a.k b.k with h3 | h3 | h3
    · exact h3
    · rcases h2 with h2 | h2
      · exact absurd hj h2
      · exact absurd h3 h2
    · exfalso
      have ha := (AtOk.start (ats_ok hv h.shape ma))
      have hb := (AtOk.start (ats_ok hv h.shape mb))
      obtain ⟨s, g1, g2⟩ := hsq.ok a ma
      have h4 := RightP.steps hv h g1 (a.k - b.k - 1) b.k (by have := (List.getElem?_eq_some_iff.1 g2).1; omega)
      rw [show b.k + (a.k - b.k - 1) + 1 = a.k by omega] at h4
      rw [hj] at ha h4
      omega
  · obtain ⟨a, ha, hj, hk⟩ := hsq.all j k s x h1 h2
    exact ⟨a, hpm.mem_iff.2 ha, hj, hk⟩
  · have ma := hpm.mem_iff.1 ha
    have mb := hpm.mem_iff.1 hb
    obtain ⟨s, g1, g2⟩ := hsq.ok a ma
    obtain ⟨s', g3, g4⟩ := hsq.ok b mb
    rw [← hj, g1] at g3
    injection g3 with g3
    subst g3
    rw [hk] at g4
    have h1 := h.next g1 g2 g4
    have e1 := AtOk.start (ats_ok hv h.shape ma)
    have e2 := AtOk.start (ats_ok hv h.shape mb)
    rw [← hj, hk] at e2
    show a.t + a.x.mi + a.x.d ≤ b.t
    omega
  · have h1 := ats_ok hv h.shape (hpm.mem_iff.1 ha)
    exact ⟨h1.t0, h1.t1⟩
/-- the same steps, the starts moved -/
def Alike (l R : List At) : Prop := R.length = l.length ∧ ∀ (i : Nat) a b, l[i]? = some a → R[i]? = some b → b.j = a.j ∧ b.k = a.k ∧ b.x = a.x
theorem pull_alike (p : Shop) (l : List At) : Alike l (pullL p [] l) := ⟨pullL_len l [], fun i a b ha hb => by
  rw [pullL_get l [] i a ha] at hb
  injection hb with hb
  subst hb
  exact ⟨rfl, rfl, rfl⟩⟩
theorem Alike.get {l R : List At} (h : Alike l R) {i : Nat} {b : At} (hb : R[i]? = some b) : ∃ a, l[i]? = some a ∧ b.j = a.j ∧ b.k = a.k ∧ b.x = a.x := by
  have hi : i < l.length := by rw [← h.1]; exact (List.getElem?_eq_some_iff.1 hb).1
  exact ⟨l[i], List.getElem?_eq_getElem hi, h.2 i _ b (List.getElem?_eq_getElem hi) hb⟩
theorem Alike.got {l R : List At} (h : Alike l R) {i : Nat} {a : At} (ha : l[i]? = some a) : ∃ b, R[i]? = some b ∧ b.j = a.j ∧ b.k = a.k ∧ b.x = a.x := by
  have hi : i < R.length := by rw [h.1]; exact (List.getElem?_eq_some_iff.1 ha).1
  exact ⟨R[i], List.getElem?_eq_getElem hi, h.2 i a _ ha (List.getElem?_eq_getElem hi)⟩
theorem Alike.seq {p : Shop} {l R : List At} (h : Alike l R) (hl : SeqOk p l) : SeqOk p R := by
  refine ⟨fun b hb => ?_, ?_, fun j k s x h1 h2 => ?_⟩
  · obtain ⟨i, hi⟩ := List.getElem?_of_mem hb
    obtain ⟨a, ha, e1, e2, e3⟩ := h.get hi
    rw [e1, e2, e3]
    exact hl.ok a (List.mem_of_getElem? ha)
  · rw [List.pairwise_iff_getElem]
    intro i i' hi hi' hlt hj
    obtain ⟨a, ha, e1, e2, _⟩ := h.get (List.getElem?_eq_getElem hi)
    obtain ⟨c, hc, g1, g2, _⟩ := h.get (List.getElem?_eq_getElem hi')
    rw [e2, g2]
    exact pair_get hl.asc hlt ha hc (by rw [← e1, ← g1]; exact hj)
  · obtain ⟨a, ha, hj, hk⟩ := hl.all j k s x h1 h2
    obtain ⟨i, hi⟩ := List.getElem?_of_mem ha
    obtain ⟨b, hb, e1, e2, _⟩ := h.got hi
    exact ⟨b, List.mem_of_getElem? hb, by rw [e1, hj], by rw [e2, hk]⟩
theorem take_get {α : Type} {l : List α} {i i' : Nat} {a : α} (h : (l.take i)[i']? = some a) : i' < i ∧ l[i']? = some a := by
  rw [List.getElem?_take] at h
  split at h
  · exact ⟨by assumption, h⟩
  · cases h
/-- no step becomes later -/
theorem pull_le {p : Shop} (hv : VShop p) {l : List At} (h : Line p l) : ∀ (i : Nat) (a b : At), l[i]? = some a → (pullL p [] l)[i]? = some b → 0 ≤ b.t ∧ b.t ≤ a.t := by
  have hal := pull_alike p l
  have hR := hal.seq h.seq
  intro i
  induction i using Nat.strongRecOn with
  | _ i ih =>
    intro a b ha hb
    have hb2 := pullL_get (p := p) l [] i a ha
    rw [hb, List.nil_append] at hb2
    injection hb2 with hb2
    have hst := h.seq.step hv (List.mem_of_getElem? ha)
    have hrd : 0 ≤ rdyR ((pullL p [] l).take i) a.j ∧ rdyR ((pullL p [] l).take i) a.j ≤ a.t := by
      unfold rdyR
      cases hl : lastP (ofJ a.j) ((pullL p [] l).take i) with
      | none => exact ⟨Int.le_refl _, (h.t0 a (List.mem_of_getElem? ha)).1⟩
      | some c =>
        show 0 ≤ c.t + c.x.mi + c.x.d ∧ c.t + c.x.mi + c.x.d ≤ a.t
        have hbj : b.j = a.j := by rw [hb2]
        have hbk : b.k = a.k := by rw [hb2]
        rcases hR.prev hb with ⟨_, h2⟩ | ⟨k, h2, i', c', h3, h4, h5, h6, h7⟩
        · rw [hbj, hl] at h2; cases h2
        · rw [hbj, hl] at h7
          injection h7 with h7
          subst h7
          obtain ⟨d, hd, e1, e2, e3⟩ := hal.get h4
          have h8 := ih i' h3 d c hd h4
          have h9 := h.early d (List.mem_of_getElem? hd) a (List.mem_of_getElem? ha) (by rw [← e1, h5, hbj]) (by omega)
          have h10 := h.seq.step hv (List.mem_of_getElem? hd)
          unfold At.dry at h9
          rw [e3]
          omega
    have hfr : 0 ≤ fromR p ((pullL p [] l).take i) a ∧ fromR p ((pullL p [] l).take i) a ≤ a.t := by
      unfold fromR
      cases hl : lastP (onB a.x.m) ((pullL p [] l).take i) with
      | none => exact hrd
      | some c =>
        show 0 ≤ max (rdyR ((pullL p [] l).take i) a.j) (roomF p c a.x.c) ∧ max (rdyR ((pullL p [] l).take i) a.j) (roomF p c a.x.c) ≤ a.t
        obtain ⟨i', h1, h2, _⟩ := lastP_some hl
        obtain ⟨h3, h4⟩ := take_get h1
        obtain ⟨d, hd, e1, e2, e3⟩ := hal.get h4
        have h5 := ih i' h3 d c hd h4
        have h6 := room_mono (p := p) (a := c) (b := d) (c := a.x.c) h5.2 e3
        have h7 := pair_get h.tog h3 hd ha
        have h8 := pair_get h.asc h3 hd ha
        have hm : d.x.m = a.x.m := by rw [← e3]; simpa [onB] using h2
        have h9 : roomF p d a.x.c ≤ a.t := by
          unfold togB at h7
          simp only [Bool.or_eq_true, Bool.not_eq_true', decide_eq_false_iff_not, decide_eq_true_eq] at h7
          rcases h7 with (h7 | h7) | h7
          · exact absurd hm h7
          · exact h7
          · exfalso
            have h10 := setupOf_ge hv a.x.m
            unfold roomF At.end_ at h7
            split at h7 <;> omega
        omega
    have hn := (next_is hv hfr.1 hst.2.2.2.1).1
    have hbt : b.t = nextF p (fromR p ((pullL p [] l).take i) a) a.x.mi := by rw [hb2]; rfl
    rw [← hbt] at hn
    refine ⟨by have := hn.1; omega, ?_⟩
    rcases Int.lt_or_le a.t b.t with hlt | hle
    · have h1 := hn.2.2 a.t hfr.2 hlt
      rw [h.shift a (List.mem_of_getElem? ha)] at h1
      cases h1
    · exact hle
theorem pull_placed {p : Shop} (hv : VShop p) {l : List At} (h : Line p l) : Placed p (pullL p [] l) := by
  intro i b hb
  obtain ⟨a, ha, e1, e2, e3⟩ := (pull_alike p l).get hb
  have h1 := pull_le hv h i a b ha hb
  have h2 := h.t0 a (List.mem_of_getElem? ha)
  have h3 := pullL_get (p := p) l [] i a ha
  rw [hb, List.nil_append] at h3
  injection h3 with h3
  refine ⟨?_, h1.1, by omega⟩
  have h4 : b.t = startF p ((pullL p [] l).take i) a := by rw [h3]
  rw [h4]
  unfold startF fromR
  rw [e3, e1]
noncomputable def pullF (p : Shop) (pl : List (List Int)) : List (List Int) := planR p (pullL p [] (sortA (ats p pl)))
theorem pull_right {p : Shop} (hv : VShop p) {pl : List (List Int)} (hz : (judgeF p pl).2.2 = 0) : RightP p (pullF p pl) :=
  have h := line_of hv (right_of hz)
  placed_right hv ((pull_alike p _).seq h.seq) (pull_placed hv h)
theorem pull_judge {p : Shop} (hv : VShop p) {pl : List (List Int)} (hz : (judgeF p pl).2.2 = 0) : (judgeF p (pullF p pl)).2.2 = 0 := (pull_right hv hz).judge
theorem fits_of {p : Shop} (hv : VShop p) {pl : List (List Int)} (h : VPlan p pl) : PFits pl := by
  have hjn := hv.jobn
  refine ⟨by rw [h.len]; omega, fun l hl => ?_⟩
  obtain ⟨i, hi⟩ := List.getElem?_of_mem hl
  have hil : i < p.jobs.length := by rw [← h.len]; exact (List.getElem?_eq_some_iff.1 hi).1
  have hj : p.jobs[i]? = some p.jobs[i] := List.getElem?_eq_getElem hil
  have h1 := (h.at_ i l _ hi hj).1
  have h2 := (hv.steps i _ hj).1
  omega
/-- the starts of the steps, in the plan and before -/
theorem pull_at {p : Shop} (hv : VShop p) {pl : List (List Int)} (hz : (judgeF p pl).2.2 = 0) {j k : Nat} {s : List Step} {x : Step} (hs : p.jobs[j]? = some s) (hx : s[k]? = some x) : planAt (pullF p pl) j k ≤ planAt pl j k := by
  have hr := right_of hz
  have h := line_of hv hr
  have hm := (sortA_perm _).mem_iff.2 (ats_has (pl := pl) hs hx)
  obtain ⟨i, hi⟩ := List.getElem?_of_mem hm
  obtain ⟨b, hb, e1, e2, e3⟩ := (pull_alike p _).got hi
  have h1 := (pull_le hv h i _ b hi hb).2
  have h2 := planR_eq ((pull_alike p _).seq h.seq) (List.mem_of_getElem? hb)
  rw [e1, e2] at h2
  show planAt (planR p _) j k ≤ _
  rw [h2]
  exact h1
end Go.Proofs.Ytcpnfcnobnjhdaa
