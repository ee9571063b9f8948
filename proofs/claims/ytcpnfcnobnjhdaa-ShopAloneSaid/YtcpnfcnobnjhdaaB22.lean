/- Parts of the proofs of this seat: SeqP. Each part says what it proves; no condition beyond those stated there. -/
import Derived.Test.YtcpnfcnobnjhdaaB20
import Derived.Test.YtcpnfcnobnjhdaaB21

/- Plans that are made step by step, each as early as its job and its machine allow: they are right. The plain law. -/
namespace Go.Proofs.Ytcpnfcnobnjhdaa
open Go Go.Sort Go.RowKit StabAt
/-! the last element of a kind -/
def lastP {α : Type} (f : α → Bool) (l : List α) : Option α := (l.filter f).getLast?
theorem lastP_snoc {α : Type} (f : α → Bool) (l : List α) (a : α) : lastP f (l ++ [a]) = if f a then some a else lastP f l := by
  unfold lastP
  rw [List.filter_append]
  by_cases h : f a = true <;> simp [h]
theorem lastP_nil {α : Type} (f : α → Bool) : lastP f ([] : List α) = none := rfl
/-- the place of an element among those of its kind -/
theorem filter_place {α : Type} {f : α → Bool} : ∀ {l : List α} {i : Nat} {a : α}, l[i]? = some a → f a = true → ∃ n, (l.filter f)[n]? = some a ∧ (l.take i).filter f = (l.filter f).take n
  | [], i, a, h, _ => by simp at h
  | b :: l, 0, a, h, hf => by
    simp at h; subst h
    exact ⟨0, by simp [hf], by simp⟩
  | b :: l, i + 1, a, h, hf => by
    obtain ⟨n, h1, h2⟩ := filter_place (l := l) (i := i) (by simpa using h) hf
    by_cases hb : f b = true
    · exact ⟨n + 1, by simp [hb, h1], by simp [hb, h2]⟩
    · exact ⟨n, by simp [hb, h1], by simp [hb, h2]⟩
theorem filter_from {α : Type} {f : α → Bool} : ∀ {l : List α} {n : Nat} {a : α}, (l.filter f)[n]? = some a → ∃ i, l[i]? = some a ∧ f a = true ∧ (l.take i).filter f = (l.filter f).take n
  | [], n, a, h => by simp at h
  | b :: l, n, a, h => by
    by_cases hb : f b = true
    · rw [List.filter_cons_of_pos hb] at h
      cases n with
      | zero => simp at h; subst h; exact ⟨0, rfl, hb, by simp⟩
      | succ n =>
        obtain ⟨i, h1, h2, h3⟩ := filter_from (l := l) (n := n) (by simpa using h)
        exact ⟨i + 1, by simpa using h1, h2, by simp [hb, h3]⟩
    · rw [List.filter_cons_of_neg hb] at h
      obtain ⟨i, h1, h2, h3⟩ := filter_from (l := l) (n := n) h
      exact ⟨i + 1, by simpa using h1, h2, by simp [hb, h3]⟩
theorem getLast_take {α : Type} {l : List α} {n : Nat} {a : α} (h : l[n]? = some a) : (l.take n).getLast? = match n with | 0 => none | k + 1 => l[k]? := by
  have hn := (List.getElem?_eq_some_iff.1 h).1
  cases n with
  | zero => simp
  | succ k =>
    rw [List.getLast?_eq_getElem?, List.length_take, List.getElem?_take]
    have : min (k + 1) l.length - 1 = k := by omega
    rw [this, if_pos (by omega)]
theorem lastP_some {α : Type} {f : α → Bool} {l : List α} {b : α} (h : lastP f l = some b) : ∃ i, l[i]? = some b ∧ f b = true ∧ ∀ (i' : Nat) c, i < i' → l[i']? = some c → f c = false := by
  unfold lastP at h
  rw [List.getLast?_eq_getElem?] at h
  obtain ⟨i, h1, h2, h3⟩ := filter_from h
  refine ⟨i, h1, h2, fun i' c hi hc => ?_⟩
  rw [← Bool.not_eq_true]
  intro hf
  obtain ⟨n', g1, g2⟩ := filter_place hc hf
  have hl := (List.getElem?_eq_some_iff.1 g1).1
  have h4 : ((l.take i').filter f).length = n' := by rw [g2, List.length_take]; omega
  have h5 : ((l.take (i + 1)).filter f).length ≤ ((l.take i').filter f).length := by
    have : l.take i' = l.take (i + 1) ++ (l.drop (i + 1)).take (i' - (i + 1)) := by
      rw [← List.take_add, show i + 1 + (i' - (i + 1)) = i' by omega]
    rw [this, List.filter_append, List.length_append]; omega
  have h6 : ((l.take (i + 1)).filter f).length = (l.filter f).length := by
    rw [filter_snoc h1, if_pos h2, List.length_append, h3, List.length_take]
    have := (List.getElem?_eq_some_iff.1 h).1
    simp only [List.length_cons, List.length_nil]
    omega
  omega
theorem lastP_none {α : Type} {f : α → Bool} {l : List α} (h : lastP f l = none) : ∀ a ∈ l, f a = false := by
  unfold lastP at h
  rw [List.getLast?_eq_none_iff] at h
  intro a ha
  rw [← Bool.not_eq_true]
  intro hf
  have : a ∈ l.filter f := List.mem_filter.2 ⟨ha, hf⟩
  rw [h] at this
  cases this
def onB (m : Int) (a : At) : Bool := decide (a.x.m = m)
def ofJ (j : Nat) (a : At) : Bool := decide (a.j = j)
/-- when a job can go on behind the steps R -/
def rdyR (R : List At) (j : Nat) : Int := match lastP (ofJ j) R with
  | none => 0
  | some b => b.dry
noncomputable def fromR (p : Shop) (R : List At) (a : At) : Int := match lastP (onB a.x.m) R with
  | none => rdyR R a.j
  | some b => max (rdyR R a.j) (roomF p b a.x.c)
noncomputable def startF (p : Shop) (R : List At) (a : At) : Int := nextF p (fromR p R a) a.x.mi
/-- all steps of a shop, those of a job in their order -/
structure SeqOk (p : Shop) (l : List At) : Prop where
  ok : ∀ a ∈ l, ∃ s, p.jobs[a.j]? = some s ∧ s[a.k]? = some a.x
  asc : l.Pairwise fun a b => a.j = b.j → a.k < b.k
  all : ∀ (j k : Nat) s x, p.jobs[j]? = some s → s[k]? = some x → ∃ a ∈ l, a.j = j ∧ a.k = k
/-- each step stands where it could be put first behind those before it -/
def Placed (p : Shop) (R : List At) : Prop := ∀ (i : Nat) b, R[i]? = some b → b.t = startF p (R.take i) b ∧ 0 ≤ b.t ∧ b.t ≤ 100000000
theorem pair_get {α : Type} {r : α → α → Prop} {l : List α} (h : l.Pairwise r) {i j : Nat} {a b : α} (hij : i < j) (ha : l[i]? = some a) (hb : l[j]? = some b) : r a b := by
  obtain ⟨h1, rfl⟩ := List.getElem?_eq_some_iff.1 ha
  obtain ⟨h2, rfl⟩ := List.getElem?_eq_some_iff.1 hb
  exact List.pairwise_iff_getElem.1 h i j h1 h2 hij
theorem SeqOk.x_eq {p : Shop} {l : List At} (h : SeqOk p l) {a b : At} (ha : a ∈ l) (hb : b ∈ l) (hj : a.j = b.j) (hk : a.k = b.k) : a.x = b.x := by
  obtain ⟨s, h1, h2⟩ := h.ok a ha
  obtain ⟨s', h3, h4⟩ := h.ok b hb
  rw [hj] at h1
  rw [h1] at h3
  injection h3 with h3
  subst h3
  rw [hk, h4] at h2
  injection h2 with h2
  exact h2.symm
theorem SeqOk.inj {p : Shop} {l : List At} (h : SeqOk p l) {i i' : Nat} {a b : At} (ha : l[i]? = some a) (hb : l[i']? = some b) (hj : a.j = b.j) (hk : a.k = b.k) : i = i' ∧ a = b := by
  have hi : i = i' := by
    rcases Nat.lt_trichotomy i i' with hlt | he | hlt
    · have := pair_get h.asc hlt ha hb hj; omega
    · exact he
    · have := pair_get h.asc hlt hb ha hj.symm; omega
  subst hi
  rw [ha] at hb
  injection hb with hb
  exact ⟨rfl, hb⟩
/-- the step before one of its job -/
theorem SeqOk.prev {p : Shop} {l : List At} (h : SeqOk p l) {i : Nat} {a : At} (ha : l[i]? = some a) :
    (a.k = 0 ∧ lastP (ofJ a.j) (l.take i) = none) ∨ (∃ k, a.k = k + 1 ∧ ∃ i' b, i' < i ∧ l[i']? = some b ∧ b.j = a.j ∧ b.k = k ∧ lastP (ofJ a.j) (l.take i) = some b) := by
  cases hl : lastP (ofJ a.j) (l.take i) with
  | none =>
    left
    refine ⟨?_, rfl⟩
    rcases Nat.eq_zero_or_pos a.k with h0 | h0
    · exact h0
    · exfalso
      obtain ⟨s, h1, h2⟩ := h.ok a (List.mem_of_getElem? ha)
      have hk : a.k - 1 < s.length := by have := (List.getElem?_eq_some_iff.1 h2).1; omega
      obtain ⟨b, hb, hbj, hbk⟩ := h.all a.j (a.k - 1) s _ h1 (List.getElem?_eq_getElem hk)
      obtain ⟨i', hi'⟩ := List.getElem?_of_mem hb
      have hlt : i' < i := by
        rcases Nat.lt_trichotomy i' i with hlt | he | hlt
        · exact hlt
        · subst he; rw [ha] at hi'; injection hi' with hi'; subst hi'; omega
        · have := pair_get h.asc hlt ha hi' hbj.symm; omega
      have hm : b ∈ l.take i := List.mem_of_getElem? (i := i') (by rw [List.getElem?_take, if_pos hlt]; exact hi')
      have := lastP_none hl b hm
      simp [ofJ, hbj] at this
  | some b =>
    right
    obtain ⟨i', h1, h2, h3⟩ := lastP_some hl
    have hbj : b.j = a.j := by simpa [ofJ] using h2
    rw [List.getElem?_take] at h1
    split at h1
    · rename_i hlt
      have hlt2 := pair_get h.asc hlt h1 ha hbj
      obtain ⟨s, g1, g2⟩ := h.ok a (List.mem_of_getElem? ha)
      have hk : a.k - 1 < s.length := by have := (List.getElem?_eq_some_iff.1 g2).1; omega
      obtain ⟨c, hc, hcj, hck⟩ := h.all a.j (a.k - 1) s _ g1 (List.getElem?_eq_getElem hk)
      obtain ⟨i2, hi2⟩ := List.getElem?_of_mem hc
      have hlt3 : i2 < i := by
        rcases Nat.lt_trichotomy i2 i with hlt | he | hlt
        · exact hlt
        · subst he; rw [ha] at hi2; injection hi2 with hi2; subst hi2; omega
        · have := pair_get h.asc hlt ha hi2 hcj.symm; omega
      have hle : i2 ≤ i' := by
        rcases Nat.lt_or_ge i' i2 with hlt4 | hge
        · have := h3 i2 c hlt4 (by rw [List.getElem?_take, if_pos hlt3]; exact hi2)
          simp [ofJ, hcj] at this
        · exact hge
      have hbk : b.k = a.k - 1 := by
        rcases Nat.lt_or_ge i2 i' with hlt5 | hge
        · have := pair_get h.asc hlt5 hi2 h1 (by rw [hcj, hbj]); omega
        · obtain rfl : i2 = i' := by omega
          rw [h1] at hi2
          injection hi2 with hi2
          subst hi2; exact hck
      exact ⟨a.k - 1, by omega, i', b, hlt, h1, hbj, hbk, rfl⟩
    · cases h1
/-! the plan of the steps -/
def tOf (R : List At) (j k : Nat) : Int := match R.find? fun b => decide (b.j = j) && decide (b.k = k) with
  | some b => b.t
  | none => 0
def planR (p : Shop) (R : List At) : List (List Int) := p.jobs.zipIdx.map fun q => (List.range q.1.length).map fun k => tOf R q.2 k
theorem planR_len (p : Shop) (R : List At) : (planR p R).length = p.jobs.length := by simp [planR]
theorem planR_row {p : Shop} {R : List At} {j : Nat} {s : List Step} (h : p.jobs[j]? = some s) : (planR p R)[j]? = some ((List.range s.length).map fun k => tOf R j k) := by
  unfold planR
  rw [List.getElem?_map, List.getElem?_zipIdx, h]
  simp
theorem planR_at {p : Shop} {R : List At} {j k : Nat} {s : List Step} {x : Step} (h : p.jobs[j]? = some s) (hk : s[k]? = some x) : planAt (planR p R) j k = tOf R j k := by
  have hl := (List.getElem?_eq_some_iff.1 hk).1
  exact planAt_eq (planR_row h) (by rw [List.getElem?_map, List.getElem?_range hl]; rfl)
theorem tOf_eq {p : Shop} {R : List At} (h : SeqOk p R) {b : At} (hb : b ∈ R) : tOf R b.j b.k = b.t := by
  unfold tOf
  cases hf : R.find? fun c => decide (c.j = b.j) && decide (c.k = b.k) with
  | none =>
    have := List.find?_eq_none.1 hf b hb
    simp at this
  | some c =>
    have hc := List.find?_some hf
    simp at hc
    obtain ⟨i, hi⟩ := List.getElem?_of_mem (List.mem_of_find?_eq_some hf)
    obtain ⟨i', hi'⟩ := List.getElem?_of_mem hb
    rw [(h.inj hi hi' hc.1 hc.2).2]
theorem planR_eq {p : Shop} {R : List At} (h : SeqOk p R) {b : At} (hb : b ∈ R) : planAt (planR p R) b.j b.k = b.t := by
  obtain ⟨s, h1, h2⟩ := h.ok b hb
  rw [planR_at h1 h2]
  exact tOf_eq h hb
theorem planR_row_at {p : Shop} {R : List At} {j k : Nat} {s : List Step} {t : Int} (h : p.jobs[j]? = some s) (ht : ((List.range s.length).map fun k => tOf R j k)[k]? = some t) : t = tOf R j k ∧ k < s.length := by
  have hl := (List.getElem?_eq_some_iff.1 ht).1
  simp at hl
  rw [List.getElem?_map, List.getElem?_range hl] at ht
  injection ht with ht
  exact ⟨ht.symm, hl⟩
theorem planR_shape {p : Shop} {R : List At} (h : SeqOk p R) (hp : ∀ b ∈ R, 0 ≤ b.t ∧ b.t ≤ 100000000) : VPlan p (planR p R) := by
  refine ⟨planR_len p R, fun i l s hl hs => ?_⟩
  rw [planR_row hs] at hl
  injection hl with hl
  subst hl
  refine ⟨by simp, fun k t ht => ?_⟩
  obtain ⟨rfl, hk⟩ := planR_row_at hs ht
  obtain ⟨b, hb, rfl, rfl⟩ := h.all i k s _ hs (List.getElem?_eq_getElem hk)
  rw [tOf_eq h hb]
  exact hp b hb
/-- a step of the list, as it stands in the plan -/
theorem SeqOk.of_at {p : Shop} {R : List At} (h : SeqOk p R) {a : At} (ha : a ∈ ats p (planR p R)) : a ∈ R := by
  obtain ⟨e, he, rfl⟩ := List.mem_map.1 ha
  obtain ⟨s, h1, h2⟩ := ents_mem he
  obtain ⟨b, hb, hj, hk⟩ := h.all e.j e.k s _ h1 h2
  obtain ⟨s', g1, g2⟩ := h.ok b hb
  rw [hj, h1] at g1
  injection g1 with g1
  subst g1
  rw [hk, h2] at g2
  injection g2 with g2
  have h3 := planR_eq h hb
  rw [hj, hk] at h3
  have : mkAt (planR p R) e = b := by
    unfold mkAt
    rw [h3, g2, ← hj, ← hk]
  rw [this]; exact hb
/-! the steps of a shop are apart -/
theorem stepsFrom_asc {j : Nat} : ∀ {l : List Step} {k : Nat}, (stepsFrom j k l).Pairwise fun a b => a.j < b.j ∨ (a.j = b.j ∧ a.k < b.k)
  | [], _ => by simp [stepsFrom]
  | x :: r, k => by
    simp only [stepsFrom, List.pairwise_cons]
    refine ⟨fun e he => ?_, stepsFrom_asc⟩
    obtain ⟨h1, i, h2, _⟩ := stepsFrom_mem he
    right
    exact ⟨h1.symm, by show k < e.k; omega⟩
theorem entsFrom_asc : ∀ {js : List (List Step)} {j : Nat}, (entsFrom j js).Pairwise fun a b => a.j < b.j ∨ (a.j = b.j ∧ a.k < b.k)
  | [], _ => by simp [entsFrom]
  | l :: r, j => by
    simp only [entsFrom, List.pairwise_append]
    refine ⟨stepsFrom_asc, entsFrom_asc, fun a ha b hb => ?_⟩
    obtain ⟨h1, _⟩ := stepsFrom_mem ha
    obtain ⟨i, _, h2, _⟩ := entsFrom_mem hb
    left
    omega
theorem ats_asc (p : Shop) (pl : List (List Int)) : (ats p pl).Pairwise fun a b => a.j < b.j ∨ (a.j = b.j ∧ a.k < b.k) := by
  unfold ats
  rw [List.pairwise_map]
  exact entsFrom_asc
theorem ats_seq (p : Shop) (pl : List (List Int)) : SeqOk p (ats p pl) := by
  refine ⟨fun a ha => ?_, (ats_asc p pl).imp fun {a b} h hj => by omega, fun j k s x hs hx => ⟨_, ats_has hs hx, rfl, rfl⟩⟩
  obtain ⟨e, he, rfl⟩ := List.mem_map.1 ha
  exact ents_mem he
/-! a placed plan is right -/
theorem setupOf_ge {p : Shop} (hv : VShop p) (m : Int) : 0 ≤ setupOf p m := by
  unfold setupOf
  rw [List.getD_eq_getElem?_getD]
  cases h : p.setup[m.toNat]? with
  | none => exact Int.le_refl _
  | some y => exact (hv.setup _ _ h).1
theorem SeqOk.step {p : Shop} (hv : VShop p) {l : List At} (h : SeqOk p l) {a : At} (ha : a ∈ l) : 0 ≤ a.x.m ∧ a.x.m ≤ p.mach - 1 ∧ 1 ≤ a.x.mi ∧ a.x.mi ≤ p.cl - p.op ∧ 0 ≤ a.x.c ∧ a.x.c ≤ 9 ∧ 0 ≤ a.x.d ∧ a.x.d ≤ 10000 := by
  obtain ⟨s, h1, h2⟩ := h.ok a ha
  exact (hv.steps _ s h1).2 _ _ h2
theorem rdyR_ge {p : Shop} (hv : VShop p) {R : List At} (h : SeqOk p R) (hp : Placed p R) (i j : Nat) : 0 ≤ rdyR (R.take i) j := by
  unfold rdyR
  cases hl : lastP (ofJ j) (R.take i) with
  | none => exact Int.le_refl _
  | some b =>
    obtain ⟨i', h1, _, _⟩ := lastP_some hl
    rw [List.getElem?_take] at h1
    split at h1
    · have h2 := (hp i' b h1).2.1
      have h3 := h.step hv (List.mem_of_getElem? h1)
      show 0 ≤ b.t + b.x.mi + b.x.d
      omega
    · cases h1
theorem fromR_ge {p : Shop} (hv : VShop p) {R : List At} (h : SeqOk p R) (hp : Placed p R) (i : Nat) (a : At) : 0 ≤ fromR p (R.take i) a ∧ rdyR (R.take i) a.j ≤ fromR p (R.take i) a := by
  have h1 := rdyR_ge hv h hp i a.j
  unfold fromR
  cases lastP (onB a.x.m) (R.take i) with
  | none => exact ⟨h1, Int.le_refl _⟩
  | some b =>
    show 0 ≤ max (rdyR (R.take i) a.j) (roomF p b a.x.c) ∧ rdyR (R.take i) a.j ≤ max (rdyR (R.take i) a.j) (roomF p b a.x.c)
    omega
theorem start_ge {p : Shop} (hv : VShop p) {R : List At} (h : SeqOk p R) (hp : Placed p R) {i : Nat} {b : At} (hb : R[i]? = some b) : fromR p (R.take i) b ≤ b.t ∧ shiftB p b.t b.x.mi = true := by
  have h1 := (hp i b hb).1
  have h2 := fromR_ge hv h hp i b
  have h3 := h.step hv (List.mem_of_getElem? hb)
  have h4 := (next_is hv h2.1 h3.2.2.2.1).1
  unfold startF at h1
  rw [← h1] at h4
  exact ⟨h4.1, h4.2.1⟩
theorem room_mono {p : Shop} {a b : At} {c : Int} (h : a.t ≤ b.t) (hx : a.x = b.x) : roomF p a c ≤ roomF p b c := by
  unfold roomF At.end_
  rw [hx]
  split <;> omega
theorem room_chain {p : Shop} (hv : VShop p) {R : List At} (h : SeqOk p R) (hp : Placed p R) : ∀ (i' i : Nat) (a b : At), i < i' → R[i]? = some a → R[i']? = some b → a.x.m = b.x.m → roomF p a b.x.c ≤ b.t := by
  intro i'
  induction i' using Nat.strongRecOn with
  | _ i' ih =>
    intro i a b hlt ha hb hm
    have hs := (start_ge hv h hp hb).1
    unfold fromR at hs
    cases hl : lastP (onB b.x.m) (R.take i') with
    | none =>
      have := lastP_none hl a (List.mem_of_getElem? (i := i) (by rw [List.getElem?_take, if_pos hlt]; exact ha))
      simp [onB, hm] at this
    | some c =>
      rw [hl] at hs
      replace hs : max (rdyR (R.take i') b.j) (roomF p c b.x.c) ≤ b.t := hs
      obtain ⟨i2, h1, h2, h3⟩ := lastP_some hl
      rw [List.getElem?_take] at h1
      split at h1
      · rename_i hlt2
        have hcm : c.x.m = b.x.m := by simpa [onB] using h2
        have hle : i ≤ i2 := by
          rcases Nat.lt_or_ge i2 i with h4 | h4
          · have := h3 i a h4 (by rw [List.getElem?_take, if_pos hlt]; exact ha)
            simp [onB, hm] at this
          · exact h4
        rcases Nat.lt_or_ge i i2 with h5 | h5
        · have h6 := ih i2 hlt2 i a c h5 ha h1 (by rw [hm, hcm])
          have h7 := (h.step hv (List.mem_of_getElem? h1)).2.2.1
          have h8 := setupOf_ge hv b.x.m
          have h9 : roomF p c b.x.c ≤ b.t := by omega
          unfold roomF At.end_ at h6 h9 ⊢
          rw [hm] at h6 ⊢
          rw [hcm] at h9
          split at h6 <;> split at h9 <;> split <;> first | omega | (exfalso; omega)
        · obtain rfl : i = i2 := by omega
          rw [ha] at h1
          injection h1 with h1
          subst h1
          omega
      · cases h1
theorem shiftBad_of {p : Shop} : ∀ {l : List At}, (∀ a ∈ l, shiftB p a.t a.x.mi = true) → shiftBad p l = none
  | [], _ => rfl
  | b :: l, h => by
    unfold shiftBad
    rw [if_pos (h b (by simp))]
    exact shiftBad_of fun a ha => h a (by simp [ha])
theorem earlyBad_of : ∀ {l : List At} {dr : Int}, (∀ a, l[0]? = some a → 0 < a.k → dr ≤ a.t) → (∀ (i : Nat) a b, l[i]? = some b → l[i + 1]? = some a → 0 < a.k → b.dry ≤ a.t) → earlyBad dr l = none
  | [], _, _, _ => rfl
  | c :: l, dr, h0, h => by
    unfold earlyBad
    rw [if_neg]
    · exact earlyBad_of (fun a ha hk => h 0 a c rfl (by simpa using ha) hk) fun i a b hb ha hk => h (i + 1) a b (by simpa using hb) (by simpa using ha) hk
    · rintro ⟨h1, h2⟩
      have := h0 c rfl h1
      omega
theorem clashBad_of {p : Shop} : ∀ {l : List At}, l.Pairwise (fun a b => togB p a b = true) → clashBad p l = none
  | [], _ => rfl
  | c :: l, h => by
    obtain ⟨h1, h2⟩ := List.pairwise_cons.1 h
    unfold clashBad
    rw [if_pos (List.all_eq_true.2 h1)]
    exact clashBad_of h2
theorem shapeL_of : ∀ {pl : List (List Int)} {js : List (List Step)}, (∀ (i : Nat) l s, pl[i]? = some l → js[i]? = some s → l.length = s.length ∧ ∀ (k : Nat) t, l[k]? = some t → 0 ≤ t ∧ t ≤ 100000000) → shapeL pl js = true
  | [], _, _ => by simp [shapeL]
  | _ :: _, [], _ => by simp [shapeL]
  | l :: pl, s :: js, h => by
    obtain ⟨h1, h2⟩ := h 0 l s rfl rfl
    simp only [shapeL, Bool.and_eq_true, decide_eq_true_eq, List.all_eq_true]
    refine ⟨⟨h1, fun t ht => ?_⟩, shapeL_of fun i l' s' g1 g2 => h (i + 1) l' s' (by simpa using g1) (by simpa using g2)⟩
    obtain ⟨k, hk⟩ := List.getElem?_of_mem ht
    exact inB_iff.2 (h2 k t hk)
theorem shaped_of {p : Shop} {pl : List (List Int)} (h : VPlan p pl) : shapedB p pl = true := by
  simp only [shapedB, Bool.and_eq_true, decide_eq_true_eq]
  exact ⟨h.len, shapeL_of h.at_⟩
theorem RightP.judge {p : Shop} {pl : List (List Int)} (h : RightP p pl) : (judgeF p pl).2.2 = 0 := by
  unfold judgeF
  rw [if_pos (shaped_of h.shape)]
  unfold judgeL
  rw [shiftBad_of h.shift, earlyBad_of (l := ats p pl) (fun a ha hk => by
    obtain ⟨i', h1, _⟩ := ats_prev ha hk
    omega) h.early, clashBad_of h.clash]
theorem placed_right {p : Shop} (hv : VShop p) {R : List At} (h : SeqOk p R) (hp : Placed p R) : RightP p (planR p R) := by
  refine ⟨planR_shape h fun b hb => ?_, fun a ha => ?_, fun i a b hb ha hk => ?_, ?_⟩
  · obtain ⟨i, hi⟩ := List.getElem?_of_mem hb
    exact (hp i b hi).2
  · obtain ⟨i, hi⟩ := List.getElem?_of_mem (h.of_at ha)
    exact (start_ge hv h hp hi).2
  · obtain ⟨i', h1, b', h2, h3, h4⟩ := ats_prev ha hk
    obtain rfl : i = i' := by omega
    rw [hb] at h2
    injection h2 with h2
    subst h2
    obtain ⟨q, hq⟩ := List.getElem?_of_mem (h.of_at (List.mem_of_getElem? ha))
    obtain ⟨u, hu⟩ := List.getElem?_of_mem (h.of_at (List.mem_of_getElem? hb))
    rcases h.prev hq with ⟨h5, _⟩ | ⟨k, h5, i2, c, h6, h7, h8, h9, h10⟩
    · omega
    · obtain ⟨_, rfl⟩ := h.inj hu h7 (by rw [h3, h8]) (by omega)
      have h11 := (start_ge hv h hp hq).1
      have h12 := (fromR_ge hv h hp q a).2
      have h13 : rdyR (R.take q) a.j = b.dry := by unfold rdyR; rw [h10]
      omega
  · have hpw := ats_asc p (planR p R)
    rw [List.pairwise_iff_getElem] at hpw ⊢
    intro i j hi hj hij
    have h1 := hpw i j hi hj hij
    obtain ⟨u, hu⟩ := List.getElem?_of_mem (h.of_at (List.getElem_mem hi))
    obtain ⟨v, hv'⟩ := List.getElem?_of_mem (h.of_at (List.getElem_mem hj))
    unfold togB
    simp only [Bool.or_eq_true, Bool.not_eq_true', decide_eq_false_iff_not, decide_eq_true_eq]
    by_cases hm : (ats p (planR p R))[i].x.m = (ats p (planR p R))[j].x.m
    · rcases Nat.lt_trichotomy u v with hlt | he | hlt
      · exact .inl (.inr (room_chain hv h hp v u _ _ hlt hu hv' hm))
      · subst he
        rw [hu] at hv'
        injection hv' with hv'
        rw [hv'] at h1
        omega
      · exact .inr (room_chain hv h hp u v _ _ hlt hv' hu hm.symm)
    · exact .inl (.inl hm)
end Go.Proofs.Ytcpnfcnobnjhdaa
