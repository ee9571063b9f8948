/- Jobs that are given nights: the plain law of push: it gives a job a night and moves others, or shows that it cannot. -/
import Derived.Test.YtkcfalehebacpaaNightP
namespace Go.Proofs.Ytkcfalehebacpaa
/-- night k was seen -/
def Sn (S : List Bool) (k : Nat) : Prop := S[k]? = some true
/-- how many jobs night k has -/
def cntN (N : List Int) (k : Nat) : Int := (N.count (k : Int) : Nat)
structure MShape (C : List (List Int)) (N P : List Int) : Prop where
  cl : C.length = N.length
  ck : ∀ (i : Nat) l, C[i]? = some l → ∀ v ∈ l, 0 ≤ v ∧ v < P.length
  nk : ∀ (i : Nat) v, N[i]? = some v → -1 ≤ v ∧ v < P.length
  pk : ∀ (i : Nat) v, P[i]? = some v → 0 ≤ v ∧ v ≤ 1000
theorem MShape.nat {C : List (List Int)} {N P : List Int} (h : MShape C N P) {i : Nat} {l : List Int} (hl : C[i]? = some l) {v : Int} (hv : v ∈ l) : ∃ k : Nat, v = k ∧ k < P.length := by
  have := h.ck i l hl v hv
  exact ⟨v.toNat, by omega, by omega⟩
/-- a set of full nights that the jobs in it cannot leave -/
structure Closed (C : List (List Int)) (N P : List Int) (Z : Nat → Prop) : Prop where
  full : ∀ k v, Z k → P[k]? = some v → v = 0
  stay : ∀ (i k : Nat) l, N[i]? = some (k : Int) → Z k → C[i]? = some l → ∀ k' : Nat, (k' : Int) ∈ l → Z k'
/-- what was seen beyond S0, but for K, is full, and the jobs there have been tried -/
def New (C : List (List Int)) (N P : List Int) (S0 S : List Bool) (K : Nat → Prop) : Prop :=
  ∀ k, Sn S k → ¬ Sn S0 k → ¬ K k → (∀ v, P[k]? = some v → v = 0) ∧ ∀ (i : Nat) l, N[i]? = some (k : Int) → C[i]? = some l → ∀ k' : Nat, (k' : Int) ∈ l → Sn S k'
def Mono (S0 S : List Bool) : Prop := S.length = S0.length ∧ ∀ k, Sn S0 k → Sn S k
theorem Mono.refl (S : List Bool) : Mono S S := ⟨rfl, fun _ h => h⟩
theorem Mono.trans {S0 S1 S2 : List Bool} (h : Mono S0 S1) (g : Mono S1 S2) : Mono S0 S2 := ⟨g.1.trans h.1, fun k hk => g.2 k (h.2 k hk)⟩
theorem Mono.set (S : List Bool) (k : Nat) : Mono S (S.set k true) := ⟨by simp, fun q hq => by
  unfold Sn at hq ⊢
  rw [List.getElem?_set]
  by_cases h : k = q
  · subst h
    rw [if_pos rfl, if_pos (List.getElem?_eq_some_iff.1 hq).1]
  · rw [if_neg h]; exact hq⟩
theorem Sn.set_ {S : List Bool} {k q : Nat} (h : Sn (S.set k true) q) : q = k ∨ Sn S q := by
  unfold Sn at h ⊢
  rw [List.getElem?_set] at h
  by_cases hk : k = q
  · exact .inl hk.symm
  · rw [if_neg hk] at h; exact .inr h
theorem Sn.self {S : List Bool} {k : Nat} (h : k < S.length) : Sn (S.set k true) k := by
  unfold Sn; rw [List.getElem?_set_self h]
structure Fail (C : List (List Int)) (N P : List Int) (S : List Bool) (job : Nat) (S' : List Bool) : Prop where
  mono : Mono S S'
  all : ∀ l, C[job]? = some l → ∀ k : Nat, (k : Int) ∈ l → Sn S' k
  new : New C N P S S' fun _ => False
structure Succ (C : List (List Int)) (N P : List Int) (S : List Bool) (job : Nat) (N' P' : List Int) : Prop where
  nl : N'.length = N.length
  pl : P'.length = P.length
  got : ∃ k : Nat, N'[job]? = some (k : Int) ∧ k < P.length ∧ (∀ l, C[job]? = some l → (k : Int) ∈ l) ∧ ¬ Sn S k
  other : ∀ (i : Nat) v v', i ≠ job → N[i]? = some v → N'[i]? = some v' → v = v' ∨ (0 ≤ v ∧ 0 ≤ v' ∧ v' < P.length ∧ (∀ l, C[i]? = some l → v' ∈ l) ∧ ¬ Sn S v.toNat)
  acc : ∀ k : Nat, k < P.length → P'.getD k 0 + cntN N' k = P.getD k 0 + cntN N k - if N[job]? = some (k : Int) then 1 else 0
  pos : ∀ (i : Nat) v, P'[i]? = some v → 0 ≤ v ∧ v ≤ 1000
  cls : ∀ Z, Closed C N P Z → (∀ (i k : Nat), Z k → (N[i]? = some (k : Int) ↔ N'[i]? = some (k : Int))) ∧ ∀ k, Z k → P'[k]? = P[k]?
theorem cntN_set {N : List Int} {j : Nat} {u v : Int} (h : N[j]? = some u) (k : Nat) : cntN (N.set j v) k = cntN N k - (if u = (k : Int) then 1 else 0) + if v = (k : Int) then 1 else 0 := by
  obtain ⟨hj, hu⟩ := List.getElem?_eq_some_iff.1 h
  unfold cntN
  rw [List.count_set hj, hu]
  have h1 : u = (k : Int) → 0 < N.count (k : Int) := fun he => by
    rw [List.count_pos_iff, ← he, ← hu]
    exact List.getElem_mem hj
  by_cases e1 : u = (k : Int)
  · have := h1 e1
    by_cases e2 : v = (k : Int)
    · simp [e1, e2]; omega
    · simp [e1, e2]; omega
  · by_cases e2 : v = (k : Int)
    · simp [e1, e2]
    · simp [e1, e2]
section
variable {C : List (List Int)} {N P : List Int} {S0 : List Bool} {job k : Nat}
/-- a free place is taken -/
theorem Succ.base (h : MShape C N P) {l : List Int} {v u : Int} (hl : C[job]? = some l) (hk : (k : Int) ∈ l) (hS : ¬ Sn S0 k) (hP : P[k]? = some v) (hv : 0 < v) (hN : N[job]? = some u) (hu : u = -1 ∨ ∃ q : Nat, u = q ∧ Sn S0 q) : Succ C N P S0 job (N.set job k) (P.set k (v - 1)) := by
  have hkl := (List.getElem?_eq_some_iff.1 hP).1
  have hjl := (List.getElem?_eq_some_iff.1 hN).1
  have huk : u ≠ (k : Int) := by
    rintro rfl
    rcases hu with hu | ⟨q, hq, hs⟩
    · omega
    · have : q = k := by omega
      subst this; exact hS hs
  refine ⟨by simp, by simp, ⟨k, by rw [List.getElem?_set_self hjl], hkl, fun l' hl' => by rw [hl] at hl'; injection hl' with hl'; rw [← hl']; exact hk, hS⟩, fun i a a' hi ha ha' => .inl ?_, fun q hq => ?_, fun i a ha => ?_, fun Z hZ => ?_⟩
  · rw [List.getElem?_set_ne (Ne.symm hi)] at ha'
    rw [ha] at ha'; injection ha'
  · rw [cntN_set hN, hN]
    have h1 := h.pk k v hP
    rw [List.getD_eq_getElem?_getD, List.getD_eq_getElem?_getD, List.getElem?_set]
    by_cases e : k = q
    · subst e
      rw [if_pos rfl, if_pos hkl, hP]
      simp only [Option.getD_some, Option.some.injEq, if_neg huk, if_true]
      omega
    · have e' : ¬ ((k : Int) = (q : Int)) := by omega
      rw [if_neg e]
      simp only [Option.some.injEq, if_neg e']
      omega
  · rw [List.getElem?_set] at ha
    by_cases e : k = i
    · rw [if_pos e, if_pos hkl] at ha
      injection ha with ha
      have := h.pk k v hP
      omega
    · rw [if_neg e] at ha; exact h.pk i a ha
  · have hkZ : ¬ Z k := fun hz => by have := hZ.full k v hz hP; omega
    refine ⟨fun i q hq => ?_, fun q hq => ?_⟩
    · by_cases hi : i = job
      · subst hi
        rw [List.getElem?_set_self hjl, hN]
        constructor
        · intro he
          injection he with he
          exact absurd (hZ.stay i q l (by rw [hN, he]) hq hl k hk) hkZ
        · intro he
          injection he with he
          have : k = q := by omega
          subst this; exact absurd hq hkZ
      · rw [List.getElem?_set_ne (Ne.symm hi)]
    · rw [List.getElem?_set_ne (by rintro rfl; exact hkZ hq)]
/-- another job moves on and leaves its place -/
theorem Succ.step (h : MShape C N P) {S1 : List Bool} {other : Nat} {l : List Int} {u : Int} {N1 P1 : List Int} (hl : C[job]? = some l) (hk : (k : Int) ∈ l) (hkl : k < P.length) (hS : ¬ Sn S0 k) (hm : Mono S0 S1) (hk1 : Sn S1 k) (hN : N[job]? = some u) (hu : u = -1 ∨ ∃ q : Nat, u = q ∧ Sn S0 q) (ho : N[other]? = some (k : Int))
    (g : Succ C N P S1 other N1 P1) : Succ C N P S0 job (N1.set job k) P1 := by
  have hjl : job < N1.length := by rw [g.nl]; exact (List.getElem?_eq_some_iff.1 hN).1
  have hne : other ≠ job := by
    rintro rfl
    rw [hN] at ho
    injection ho with ho
    rcases hu with hu | ⟨q, hq, hs⟩
    · omega
    · have : q = k := by omega
      subst this; exact hS hs
  have hN1 : N1[job]? = some u := by
    obtain ⟨u', hu'⟩ : ∃ u', N1[job]? = some u' := ⟨_, List.getElem?_eq_getElem hjl⟩
    rcases g.other job u u' (Ne.symm hne) hN hu' with e | ⟨e1, _, _, _, e2⟩
    · rw [hu', e]
    · exfalso
      rcases hu with hu | ⟨q, hq, hs⟩
      · omega
      · refine e2 ?_
        rw [hq]
        simpa using hm.2 q hs
  obtain ⟨k2, q1, q2, q3, q4⟩ := g.got
  have hk2 : k2 ≠ k := by rintro rfl; exact q4 hk1
  refine ⟨by simpa using g.nl, g.pl, ⟨k, by rw [List.getElem?_set_self hjl], hkl, fun l' hl' => by rw [hl] at hl'; injection hl' with hl'; rw [← hl']; exact hk, hS⟩, fun i a a' hi ha ha' => ?_, fun q hq => ?_, g.pos, fun Z hZ => ?_⟩
  · rw [List.getElem?_set_ne (Ne.symm hi)] at ha'
    by_cases hio : i = other
    · subst hio
      rw [ho] at ha
      injection ha with ha
      rw [q1] at ha'
      injection ha' with ha'
      subst ha ha'
      exact .inr ⟨by omega, by omega, by omega, q3, by simpa using hS⟩
    · rcases g.other i a a' hio ha ha' with e | ⟨e1, e2, e3, e4, e5⟩
      · exact .inl e
      · exact .inr ⟨e1, e2, e3, e4, fun hs => e5 (hm.2 _ hs)⟩
  · rw [cntN_set hN1, hN]
    have ga := g.acc q hq
    rw [ho] at ga
    simp only [Option.some.injEq] at ga ⊢
    by_cases e : (k : Int) = (q : Int)
    · rw [if_pos e] at ga ⊢; omega
    · rw [if_neg e] at ga ⊢; omega
  · obtain ⟨c1, c2⟩ := g.cls Z hZ
    have hkZ : ¬ Z k := fun hz => by
      have := (c1 other k hz).1 ho
      rw [q1] at this
      injection this with this
      omega
    refine ⟨fun i q hq => ?_, c2⟩
    by_cases hi : i = job
    · subst hi
      rw [List.getElem?_set_self hjl, hN]
      constructor
      · intro he
        injection he with he
        exact absurd (hZ.stay i q l (by rw [hN, he]) hq hl k hk) hkZ
      · intro he
        injection he with he
        have : k = q := by omega
        subst this; exact absurd hq hkZ
    · rw [List.getElem?_set_ne (Ne.symm hi)]; exact c1 i q hq
theorem New.start (S : List Bool) (K : Nat → Prop) : New C N P S S K := fun _ h1 h2 _ => absurd h1 h2
theorem New.mark {S : List Bool} (h : New C N P S0 S fun _ => False) (k : Nat) : New C N P S0 (S.set k true) fun q => q = k := fun q h1 h2 h3 => by
  have h4 := (Sn.set_ h1).resolve_left h3
  obtain ⟨g1, g2⟩ := h q h4 h2 (fun h => h)
  exact ⟨g1, fun i l e1 e2 k' e3 => (Mono.set S k).2 k' (g2 i l e1 e2 k' e3)⟩
theorem New.fail {S S' : List Bool} {K : Nat → Prop} {i : Nat} (h : New C N P S0 S K) (g : Fail C N P S i S') : New C N P S0 S' K := fun q h1 h2 h3 => by
  by_cases hq : Sn S q
  · obtain ⟨g1, g2⟩ := h q hq h2 h3
    exact ⟨g1, fun i l e1 e2 k' e3 => g.mono.2 k' (g2 i l e1 e2 k' e3)⟩
  · exact g.new q h1 hq (fun h => h)
theorem New.close {S : List Bool} (h : New C N P S0 S fun q => q = k) (hP : ∀ v, P[k]? = some v → v = 0) (ha : ∀ (i : Nat) l, N[i]? = some (k : Int) → C[i]? = some l → ∀ k' : Nat, (k' : Int) ∈ l → Sn S k') : New C N P S0 S fun _ => False := fun q h1 h2 _ => by
  by_cases e : q = k
  · subst e; exact ⟨hP, ha⟩
  · exact h q h1 h2 e
end
/-- what is unseen -/
def uns (S : List Bool) : Nat := S.count false
theorem uns_mark {S : List Bool} {k : Nat} (h : S[k]? = some false) : uns (S.set k true) + 1 = uns S := by
  obtain ⟨hk, he⟩ := List.getElem?_eq_some_iff.1 h
  unfold uns
  rw [List.count_set hk, he]
  have : 0 < S.count false := by rw [List.count_pos_iff, ← he]; exact List.getElem_mem hk
  simp
  omega
theorem uns_mono : ∀ {S S' : List Bool}, Mono S S' → uns S' ≤ uns S
  | [], [], _ => Nat.le_refl _
  | [], _ :: _, h => by have := h.1; simp at this
  | _ :: _, [], h => by have := h.1; simp at this
  | a :: S, b :: S', h => by
    have h1 : Mono S S' := ⟨by simpa using h.1, fun k hk => by have := h.2 (k + 1) (by unfold Sn at hk ⊢; simpa using hk); unfold Sn at this ⊢; simpa using this⟩
    have h2 := uns_mono h1
    have h3 : a = true → b = true := fun ha => by
      have := h.2 0 (by unfold Sn; simp [ha])
      unfold Sn at this; simpa using this
    unfold uns at h2 ⊢
    rw [List.count_cons, List.count_cons]
    cases a <;> cases b <;> simp at h3 ⊢ <;> omega
theorem Closed.succ {C : List (List Int)} {N P N' P' : List Int} {S : List Bool} {job : Nat} {Z : Nat → Prop} (h : Closed C N P Z) (g : Succ C N P S job N' P') : Closed C N' P' Z := by
  obtain ⟨c1, c2⟩ := g.cls Z h
  exact ⟨fun k v hk hv => h.full k v hk (by rw [← c2 k hk]; exact hv), fun i k l h1 h2 h3 => h.stay i k l ((c1 i k h2).2 h1) h2 h3⟩
/-- where a push failed from nothing seen, what was seen is closed -/
theorem Fail.closed {C : List (List Int)} {N P : List Int} {S S' : List Bool} {job : Nat} (h : Fail C N P S job S') (h0 : ∀ k, ¬ Sn S k) : Closed C N P (Sn S') :=
  ⟨fun k v hk hv => (h.new k hk (h0 k) (fun h => h)).1 v hv, fun i k l h1 h2 h3 => (h.new k h2 (h0 k) (fun h => h)).2 i l h1 h3⟩
end Go.Proofs.Ytkcfalehebacpaa
