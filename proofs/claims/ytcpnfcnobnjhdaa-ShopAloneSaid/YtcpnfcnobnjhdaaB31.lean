/- Parts of the proofs of this seat: RefPullP. Each part says what it proves; no condition beyond those stated there. -/
import Derived.Test.YtcpnfcnobnjhdaaB30

/- The reference's Pull: the plain law: what its rounds do, and where they stop. -/
namespace Go.Proofs.Ytcpnfcnobnjhdaa
open Go Go.Sort Go.RowKit StabAt
def key (a : At) : Nat × Nat × Step := (a.j, a.k, a.x)
theorem key_eq {a b : At} : key a = key b ↔ a.j = b.j ∧ a.k = b.k ∧ a.x = b.x := by simp [key]
theorem Alike.keys {l R : List At} (h : Alike l R) : l.map key = R.map key := by
  apply List.ext_getElem?
  intro i
  rw [List.getElem?_map, List.getElem?_map]
  cases hl : l[i]? with
  | none =>
    have : R[i]? = none := List.getElem?_eq_none (by rw [h.1]; exact List.getElem?_eq_none_iff.1 hl)
    rw [this]
  | some a =>
    obtain ⟨b, hb, e1, e2, e3⟩ := h.got hl
    rw [hb]
    simp only [Option.map_some]
    rw [key_eq.2 ⟨e1.symm, e2.symm, e3.symm⟩]
theorem filter_keys {m : Int} : ∀ {l R : List At}, l.map key = R.map key → (l.filter (onB m)).map key = (R.filter (onB m)).map key
  | [], [], _ => rfl
  | [], _ :: _, h => by simp at h
  | _ :: _, [], h => by simp at h
  | a :: l, b :: R, h => by
    simp only [List.map_cons, List.cons.injEq] at h
    have ih := filter_keys (m := m) h.2
    have hx := (key_eq.1 h.1).2.2
    have hm : onB m a = onB m b := by unfold onB; rw [hx]
    by_cases hb : onB m b = true
    · rw [List.filter_cons_of_pos (by rw [hm]; exact hb), List.filter_cons_of_pos hb, List.map_cons, List.map_cons, ih, h.1]
    · rw [List.filter_cons_of_neg (by rw [hm]; exact hb), List.filter_cons_of_neg hb, ih]
theorem keys_get {l R : List At} (h : l.map key = R.map key) {n : Nat} {a : At} (ha : l[n]? = some a) : ∃ b, R[n]? = some b ∧ b.j = a.j ∧ b.k = a.k ∧ b.x = a.x := by
  have h1 : (R.map key)[n]? = some (key a) := by rw [← h, List.getElem?_map, ha]; rfl
  rw [List.getElem?_map] at h1
  cases hb : R[n]? with
  | none => rw [hb] at h1; cases h1
  | some b =>
    rw [hb] at h1
    simp only [Option.map_some, Option.some.injEq] at h1
    exact ⟨b, rfl, key_eq.1 h1⟩
/-- the earliest start that a plan O lets a step have -/
def rdyO (p : Shop) (O : List (List Int)) (a : At) : Int := match a.k with
  | 0 => 0
  | k + 1 => planAt O a.j k + (stepAt p a.j k).mi + (stepAt p a.j k).d
def atO (O : List (List Int)) (b : At) : At := ⟨b.j, b.k, planAt O b.j b.k, b.x⟩
noncomputable def prevO (p : Shop) (O : List (List Int)) (M : List At) (n : Nat) (a : At) : Int := match n with
  | 0 => rdyO p O a
  | k + 1 => match M[k]? with
    | some b => max (rdyO p O a) (roomF p (atO O b) a.x.c)
    | none => rdyO p O a
noncomputable def refT (p : Shop) (O : List (List Int)) (M : List At) (n : Nat) (a : At) : Int := nextF p (prevO p O M n a) a.x.mi
theorem prevO_key {p : Shop} {O : List (List Int)} {M M' : List At} (h : M.map key = M'.map key) {a b : At} (hj : b.j = a.j) (hk : b.k = a.k) (hx : b.x = a.x) (n : Nat) : prevO p O M n a = prevO p O M' n b := by
  have hr : rdyO p O a = rdyO p O b := by unfold rdyO; rw [hj, hk]
  unfold prevO
  cases n with
  | zero => exact hr
  | succ k =>
    simp only
    cases hM : M[k]? with
    | none =>
      have : M'[k]? = none := by
        have h1 := congrArg List.length h
        simp at h1
        exact List.getElem?_eq_none (by rw [← h1]; exact List.getElem?_eq_none_iff.1 hM)
      rw [this]; exact hr
    | some c =>
      obtain ⟨d, hd, e1, e2, e3⟩ := keys_get h hM
      rw [hd]
      simp only
      rw [hr, hx, show atO O d = atO O c by unfold atO; rw [e1, e2, e3]]
theorem refT_key {p : Shop} {O : List (List Int)} {M M' : List At} (h : M.map key = M'.map key) {a b : At} (hj : b.j = a.j) (hk : b.k = a.k) (hx : b.x = a.x) (n : Nat) : refT p O M n a = refT p O M' n b := by
  unfold refT
  rw [prevO_key h hj hk hx, hx]
def prevI (M : List At) : Nat → Option At
  | 0 => none
  | k + 1 => M[k]?
theorem lastP_prev {M l : List At} {f : At → Bool} {n : Nat} {b : At} (h : l.filter f = M.take n) (hn : M[n]? = some b) : lastP f l = prevI M n := by
  unfold lastP
  rw [h, getLast_take hn]
  cases n <;> rfl
/-- the reference's plan while it grows -/
structure OutOk (p : Shop) (R : List At) (O : List (List Int)) : Prop where
  len : O.length = p.jobs.length
  row : ∀ (j : Nat) s l, p.jobs[j]? = some s → O[j]? = some l → l.length = s.length
  bd : ∀ b ∈ R, 0 ≤ planAt O b.j b.k ∧ planAt O b.j b.k ≤ b.t
theorem stepAt_eq {p : Shop} {j k : Nat} {s : List Step} {x : Step} (hj : p.jobs[j]? = some s) (hk : s[k]? = some x) : stepAt p j k = x := by
  unfold stepAt
  simp [List.getD_eq_getElem?_getD, hj, hk]
section
variable {p : Shop} {R : List At} {O : List (List Int)}
theorem OutOk.rdy (hv : VShop p) (hq : SeqOk p R) (h : OutOk p R O) {i : Nat} {b : At} (hb : R[i]? = some b) : 0 ≤ rdyO p O b ∧ rdyO p O b ≤ rdyR (R.take i) b.j := by
  unfold rdyO rdyR
  rcases hq.prev hb with ⟨h1, h2⟩ | ⟨k, h1, i', c, h2, h3, h4, h5, h6⟩
  · rw [h1, h2]; exact ⟨Int.le_refl _, Int.le_refl _⟩
  · rw [h1, h6]
    simp only
    have hm := List.mem_of_getElem? h3
    obtain ⟨s, g1, g2⟩ := hq.ok c hm
    have h7 := h.bd c hm
    have h8 := hq.step hv hm
    rw [h4] at g1 h7
    rw [h5] at g2 h7
    rw [stepAt_eq g1 g2]
    unfold At.dry
    omega
theorem OutOk.prev (hv : VShop p) (hq : SeqOk p R) (h : OutOk p R O) {m : Int} {n i : Nat} {b : At} (hb : R[i]? = some b) (hm : b.x.m = m) (hn : (R.filter (onB m))[n]? = some b) (ht : (R.take i).filter (onB m) = (R.filter (onB m)).take n) :
    0 ≤ prevO p O (R.filter (onB m)) n b ∧ prevO p O (R.filter (onB m)) n b ≤ fromR p (R.take i) b := by
  have h1 := h.rdy hv hq hb
  have h2 : lastP (onB b.x.m) (R.take i) = prevI (R.filter (onB m)) n := by rw [hm]; exact lastP_prev ht hn
  unfold prevO fromR
  rw [h2]
  cases n with
  | zero => exact h1
  | succ k =>
    simp only [prevI]
    cases hc : (R.filter (onB m))[k]? with
    | none => exact h1
    | some c =>
      simp only
      have hcm := List.mem_filter.1 (List.mem_of_getElem? hc)
      have h3 := (h.bd c hcm.1).2
      have h4 := room_mono (p := p) (a := atO O c) (b := c) (c := b.x.c) h3 rfl
      omega
/-- no round goes beyond the plan that was put step by step -/
theorem refT_le (hv : VShop p) (hq : SeqOk p R) (hp : Placed p R) (h : OutOk p R O) {m : Int} {n : Nat} {b : At} (hn : (R.filter (onB m))[n]? = some b) :
    0 ≤ prevO p O (R.filter (onB m)) n b ∧ prevO p O (R.filter (onB m)) n b ≤ 100000000 ∧ 0 ≤ refT p O (R.filter (onB m)) n b ∧ refT p O (R.filter (onB m)) n b ≤ b.t ∧ b ∈ R := by
  obtain ⟨i, hi, hf, ht⟩ := filter_from hn
  have hm : b.x.m = m := by simpa [onB] using hf
  have h1 := h.prev hv hq hi hm hn ht
  have h2 := (hp i b hi)
  have h3 := start_ge hv hq hp hi
  have h4 := hq.step hv (List.mem_of_getElem? hi)
  have h5 := next_mono hv h1.1 h1.2 h4.2.2.2.1
  have h6 := next_ge hv h1.1 h4.2.2.2.1
  have h7 : b.t = nextF p (fromR p (R.take i) b) b.x.mi := h2.1
  refine ⟨h1.1, by omega, ?_, ?_, List.mem_of_getElem? hi⟩
  · unfold refT; omega
  · unfold refT; omega
/-- where nothing is raised any more the plan is the one that was put step by step -/
theorem refT_done (hv : VShop p) (hq : SeqOk p R) (hp : Placed p R) (h : OutOk p R O) (hd : ∀ m : Nat, (m : Int) < p.mach → ∀ (n : Nat) b, (R.filter (onB m))[n]? = some b → refT p O (R.filter (onB m)) n b ≤ planAt O b.j b.k) : ∀ (i : Nat) (b : At), R[i]? = some b → planAt O b.j b.k = b.t := by
  intro i
  induction i using Nat.strongRecOn with
  | _ i ih =>
    intro b hb
    have hs := hq.step hv (List.mem_of_getElem? hb)
    obtain ⟨n, hn, ht⟩ := filter_place (f := onB b.x.m) hb (by simp [onB])
    have h1 := hd b.x.m.toNat (by omega) n b (by rw [show ((b.x.m.toNat : Nat) : Int) = b.x.m by omega]; exact hn)
    rw [show ((b.x.m.toNat : Nat) : Int) = b.x.m by omega] at h1
    have h2 := (h.bd b (List.mem_of_getElem? hb)).2
    have hr : rdyO p O b = rdyR (R.take i) b.j := by
      unfold rdyO rdyR
      rcases hq.prev hb with ⟨g1, g2⟩ | ⟨k, g1, i', c, g2, g3, g4, g5, g6⟩
      · rw [g1, g2]
      · rw [g1, g6]
        simp only
        obtain ⟨s, q1, q2⟩ := hq.ok c (List.mem_of_getElem? g3)
        have g7 := ih i' g2 c g3
        rw [g4] at q1 g7
        rw [g5] at q2 g7
        rw [stepAt_eq q1 q2, g7]
        rfl
    have hl : lastP (onB b.x.m) (R.take i) = prevI (R.filter (onB b.x.m)) n := lastP_prev ht hn
    have hpf : prevO p O (R.filter (onB b.x.m)) n b = fromR p (R.take i) b := by
      unfold prevO fromR
      rw [hl]
      cases n with
      | zero => exact hr
      | succ k =>
        simp only [prevI]
        cases hc : (R.filter (onB b.x.m))[k]? with
        | none => exact hr
        | some c =>
          simp only
          have hc2 : lastP (onB b.x.m) (R.take i) = some c := by rw [hl]; exact hc
          obtain ⟨i', g1, g2, _⟩ := lastP_some hc2
          obtain ⟨g3, g4⟩ := take_get g1
          have g5 := ih i' g3 c g4
          rw [hr, show atO O c = c by unfold atO; rw [g5]]
    have h3 : refT p O (R.filter (onB b.x.m)) n b = b.t := by
      unfold refT
      rw [hpf]
      exact (hp i b hb).1.symm
    omega
theorem OutOk.eq (hv : VShop p) (hq : SeqOk p R) (h : OutOk p R O) (he : ∀ (i : Nat) (b : At), R[i]? = some b → planAt O b.j b.k = b.t) : O = planR p R := by
  apply List.ext_getElem?
  intro j
  by_cases hj : j < p.jobs.length
  · have hs : p.jobs[j]? = some p.jobs[j] := List.getElem?_eq_getElem hj
    have hO : O[j]? = some (O[j]'(by rw [h.len]; exact hj)) := List.getElem?_eq_getElem _
    rw [planR_row hs, hO]
    congr 1
    have hl := h.row j _ _ hs hO
    apply List.ext_getElem?
    intro k
    by_cases hk : k < p.jobs[j].length
    · have hx : p.jobs[j][k]? = some p.jobs[j][k] := List.getElem?_eq_getElem hk
      obtain ⟨b, hb, rfl, rfl⟩ := hq.all j k _ _ hs hx
      obtain ⟨i, hi⟩ := List.getElem?_of_mem hb
      have h1 := he i b hi
      have hok : (O[b.j]'(by rw [h.len]; exact hj))[b.k]? = some ((O[b.j]'(by rw [h.len]; exact hj))[b.k]'(by rw [hl]; exact hk)) := List.getElem?_eq_getElem _
      rw [planAt_eq hO hok] at h1
      rw [hok, h1, List.getElem?_map, List.getElem?_range hk]
      simp [tOf_eq hq hb]
    · rw [List.getElem?_eq_none (by rw [hl]; omega), List.getElem?_eq_none (by simp; omega)]
  · rw [List.getElem?_eq_none (by rw [h.len]; omega), List.getElem?_eq_none (by rw [planR_len]; omega)]
/-- how far the plan is from the one that it becomes -/
def meas (R : List At) (O : List (List Int)) : Nat := (R.map fun b => (b.t - planAt O b.j b.k).toNat).sum
theorem sum_le_ {α : Type} {f g : α → Nat} : ∀ {l : List α}, (∀ a ∈ l, f a ≤ g a) → (l.map f).sum ≤ (l.map g).sum
  | [], _ => Nat.le_refl _
  | a :: l, h => by
    have h1 := h a (by simp)
    have h2 := sum_le_ (l := l) fun a ha => h a (by simp [ha])
    simp only [List.map_cons, List.sum_cons]; omega
theorem sum_lt_ {α : Type} {f g : α → Nat} : ∀ {l : List α}, (∀ a ∈ l, f a ≤ g a) → (∃ a ∈ l, f a < g a) → (l.map f).sum < (l.map g).sum
  | [], _, ⟨a, ha, _⟩ => by cases ha
  | a :: l, h, ⟨b, hb, hlt⟩ => by
    have h1 := h a (by simp)
    have h2 := sum_le_ (l := l) fun a ha => h a (by simp [ha])
    simp only [List.map_cons, List.sum_cons]
    rcases List.mem_cons.1 hb with rfl | hb
    · omega
    · have h3 := sum_lt_ (l := l) (fun a ha => h a (by simp [ha])) ⟨b, hb, hlt⟩
      omega
theorem planAt_set {O : List (List Int)} {j k : Nat} {l : List Int} {t : Int} (hj : O[j]? = some l) (hk : k < l.length) (j' k' : Nat) : planAt (O.modify j fun l => l.set k t) j' k' = if j' = j ∧ k' = k then t else planAt O j' k' := by
  unfold planAt
  simp only [List.getD_eq_getElem?_getD, modify_get]
  by_cases hjj : j = j'
  · subst hjj
    rw [if_pos rfl, hj]
    simp only [Option.map_some, Option.getD_some, List.getElem?_set]
    by_cases hkk : k = k'
    · subst hkk; simp [hk]
    · rw [if_neg hkk, if_neg (fun h => hkk h.2.symm)]
  · rw [if_neg hjj, if_neg (fun h => hjj h.1.symm)]
theorem OutOk.raise (hq : SeqOk p R) (h : OutOk p R O) {b : At} (hb : b ∈ R) {t : Int} {l : List Int} (hl : O[b.j]? = some l) (h1 : planAt O b.j b.k < t) (h2 : t ≤ b.t) :
    OutOk p R (O.modify b.j fun l => l.set b.k t) ∧ meas R (O.modify b.j fun l => l.set b.k t) < meas R O := by
  obtain ⟨s, g1, g2⟩ := hq.ok b hb
  have hk : b.k < l.length := by rw [h.row _ s l g1 hl]; exact (List.getElem?_eq_some_iff.1 g2).1
  have hset := planAt_set (t := t) hl hk
  have h0 := h.bd b hb
  refine ⟨⟨by simpa using h.len, fun j s' l' e1 e2 => ?_, fun c hc => ?_⟩, sum_lt_ (fun c hc => ?_) ⟨b, hb, ?_⟩⟩
  · rw [modify_get] at e2
    by_cases hj : b.j = j
    · rw [if_pos hj] at e2
      cases hO : O[j]? with
      | none => rw [hO] at e2; cases e2
      | some l0 =>
        rw [hO] at e2
        simp only [Option.map_some, Option.some.injEq] at e2
        rw [← e2, List.length_set]
        exact h.row j s' l0 e1 hO
    · rw [if_neg hj] at e2
      exact h.row j s' l' e1 e2
  · rw [hset]
    split
    · rename_i he
      obtain ⟨u, hu⟩ := List.getElem?_of_mem hc
      obtain ⟨v, hv'⟩ := List.getElem?_of_mem hb
      rw [(hq.inj hu hv' he.1 he.2).2]
      omega
    · exact h.bd c hc
  · rw [hset]
    split
    · rename_i he
      obtain ⟨u, hu⟩ := List.getElem?_of_mem hc
      obtain ⟨v, hv'⟩ := List.getElem?_of_mem hb
      rw [(hq.inj hu hv' he.1 he.2).2]
      omega
    · exact Nat.le_refl _
  · rw [hset, if_pos ⟨rfl, rfl⟩]
    omega
end
/-- nothing is raised on the machines before m, and on m before its n-th step -/
def Still (p : Shop) (R : List At) (O : List (List Int)) (m n : Nat) : Prop :=
  (∀ m' : Nat, m' < m → ∀ (q : Nat) b, (R.filter (onB m'))[q]? = some b → refT p O (R.filter (onB m')) q b ≤ planAt O b.j b.k) ∧
  ∀ (q : Nat) b, q < n → (R.filter (onB m))[q]? = some b → refT p O (R.filter (onB m)) q b ≤ planAt O b.j b.k
/-- the state of a round: raised, or still -/
def Rnd (p : Shop) (R : List At) (O : List (List Int)) (gk m n : Nat) (ag : Bool) : Prop := (ag = true ∧ meas R O + 1 < gk) ∨ (ag = false ∧ meas R O + 1 ≤ gk ∧ Still p R O m n)
theorem Rnd.start {p : Shop} {R : List At} {O : List (List Int)} {gk : Nat} (h : meas R O + 1 ≤ gk) : Rnd p R O gk 0 0 false := .inr ⟨rfl, h, fun m' hm => absurd hm (Nat.not_lt_zero _), fun q b hq => absurd hq (Nat.not_lt_zero _)⟩
theorem Rnd.pass {p : Shop} {R : List At} {O : List (List Int)} {gk m n : Nat} {ag : Bool} (h : Rnd p R O gk m n ag) {b : At} (hb : (R.filter (onB m))[n]? = some b) (hle : refT p O (R.filter (onB m)) n b ≤ planAt O b.j b.k) : Rnd p R O gk m (n + 1) ag := by
  rcases h with h | ⟨h1, h2, h3, h4⟩
  · exact .inl h
  · refine .inr ⟨h1, h2, h3, fun q c hq hc => ?_⟩
    rcases Nat.lt_or_ge q n with hlt | hge
    · exact h4 q c hlt hc
    · obtain rfl : q = n := by omega
      rw [hb] at hc
      injection hc with hc
      subst hc; exact hle
theorem Rnd.next {p : Shop} {R : List At} {O : List (List Int)} {gk m : Nat} {ag : Bool} (h : Rnd p R O gk m (R.filter (onB m)).length ag) : Rnd p R O gk (m + 1) 0 ag := by
  rcases h with h | ⟨h1, h2, h3, h4⟩
  · exact .inl h
  · refine .inr ⟨h1, h2, fun m' hm q b hb => ?_, fun q b hq => absurd hq (Nat.not_lt_zero _)⟩
    rcases Nat.lt_or_ge m' m with hlt | hge
    · exact h3 m' hlt q b hb
    · obtain rfl : m' = m := by omega
      exact h4 q b (List.getElem?_eq_some_iff.1 hb).1 hb
theorem Rnd.up {p : Shop} {R : List At} {O O' : List (List Int)} {gk m n m' n' : Nat} {ag : Bool} (h : Rnd p R O gk m n ag) (hlt : meas R O' < meas R O) : Rnd p R O' gk m' n' true := by
  rcases h with ⟨_, h⟩ | ⟨_, h, _⟩ <;> exact .inl ⟨rfl, by omega⟩
end Go.Proofs.Ytcpnfcnobnjhdaa
