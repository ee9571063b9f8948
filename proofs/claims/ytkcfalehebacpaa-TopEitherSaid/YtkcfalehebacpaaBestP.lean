/- The least plan of the plans that do most jobs: the plain law. -/
import Derived.Test.YtkcfalehebacpaaMatchQ
namespace Go.Proofs.Ytkcfalehebacpaa
/-- a right plan: C the nights that a job may have, cap the places of the nights -/
structure Pl (C : List (List Int)) (cap N : List Int) : Prop where
  len : N.length = C.length
  ok : ∀ (i : Nat) v, N[i]? = some v → v = -1 ∨ ∃ k : Nat, v = k ∧ k < cap.length ∧ ∀ l, C[i]? = some l → (k : Int) ∈ l
  cnt : ∀ k, k < cap.length → cntN N k ≤ cap.getD k 0
def CapOk (cap : List Int) : Prop := ∀ (k : Nat) v, cap[k]? = some v → 0 ≤ v ∧ v ≤ 1000
def ChOk (C : List (List Int)) (n : Nat) : Prop := ∀ (i : Nat) l, C[i]? = some l → ∀ v ∈ l, 0 ≤ v ∧ v < n
theorem cntN_nonneg (N : List Int) (k : Nat) : 0 ≤ cntN N k := by unfold cntN; omega
theorem getD_some {l : List Int} {k : Nat} {v : Int} (h : l[k]? = some v) : l.getD k 0 = v := by rw [List.getD_eq_getElem?_getD, h]; rfl
section
variable {C C0 : List (List Int)} {cap N P : List Int}
theorem CapOk.getD_ (h : CapOk cap) (k : Nat) : 0 ≤ cap.getD k 0 ∧ cap.getD k 0 ≤ 1000 := by
  rcases Nat.lt_or_ge k cap.length with hk | hk
  · have := h k cap[k] (List.getElem?_eq_getElem hk)
    rw [getD_some (List.getElem?_eq_getElem hk)]; exact this
  · rw [List.getD_eq_getElem?_getD, List.getElem?_eq_none hk]; exact ⟨by simp, by simp⟩
theorem VM.pl_ (h : VM C cap N P) : Pl C cap N := by
  refine ⟨h.sh.cl.symm, fun i v hv => ?_, fun k hk => ?_⟩
  · have hb := h.sh.nk i v hv
    rcases (show v = -1 ∨ 0 ≤ v by omega) with h0 | h0
    · exact .inl h0
    · exact .inr ⟨v.toNat, by omega, by rw [← h.pl]; omega, fun l hl => h.ch i v.toNat l (by rw [hv]; congr 1; omega) hl⟩
  · have hk' : k < P.length := by rw [h.pl]; exact hk
    have h1 := h.acc k hk'
    have h2 := h.sh.pk k _ (List.getElem?_eq_getElem hk')
    rw [getD_some (List.getElem?_eq_getElem hk')] at h1
    omega
theorem VM.chOk (h : VM C cap N P) : ChOk C cap.length := fun i l hl v hv => by rw [← h.pl]; exact h.sh.ck i l hl v hv
theorem vm_mk (hcl : C.length = N.length) (hck : ChOk C cap.length) (hcap : CapOk cap) (hpl : P.length = cap.length) (hok : ∀ (i : Nat) v, N[i]? = some v → v = -1 ∨ ∃ k : Nat, v = k ∧ k < cap.length ∧ ∀ l, C[i]? = some l → (k : Int) ∈ l)
    (hacc : ∀ k, k < cap.length → P.getD k 0 + cntN N k = cap.getD k 0) (hpos : ∀ (i : Nat) v, P[i]? = some v → 0 ≤ v) : VM C cap N P := by
  refine ⟨⟨hcl, fun i l hl v hv => by rw [hpl]; exact hck i l hl v hv, fun i v hv => ?_, fun i v hv => ?_⟩, hpl, fun k hk => hacc k (by rw [← hpl]; exact hk), fun i k l hi hl => ?_⟩
  · rcases hok i v hv with h | ⟨k, h1, h2, _⟩
    · omega
    · omega
  · have hi : i < cap.length := by rw [← hpl]; exact (List.getElem?_eq_some_iff.1 hv).1
    have h1 := hacc i hi
    have h2 := hcap.getD_ i
    have h3 := cntN_nonneg N i
    rw [getD_some hv] at h1
    exact ⟨hpos i v hv, by omega⟩
  · rcases hok i _ hi with h | ⟨k', h1, _, h3⟩
    · omega
    · have : k = k' := by omega
      subst this; exact h3 l hl
def restP (cap N : List Int) : List Int := (List.range cap.length).map fun k => cap.getD k 0 - cntN N k
theorem restP_get {k : Nat} (h : k < cap.length) : (restP cap N)[k]? = some (cap.getD k 0 - cntN N k) := by simp [restP, h]
theorem Pl.vm (h : Pl C cap N) (hc : ChOk C cap.length) (hcap : CapOk cap) : VM C cap N (restP cap N) := by
  refine vm_mk h.len.symm hc hcap (by simp [restP]) h.ok (fun k hk => ?_) fun i v hv => ?_
  · rw [getD_some (restP_get hk)]; omega
  · have hi : i < cap.length := by have := (List.getElem?_eq_some_iff.1 hv).1; simpa [restP] using this
    rw [restP_get hi] at hv
    injection hv with hv
    have := h.cnt i hi
    omega
theorem stuck_pl (h : VM C cap N P) (hcap : CapOk cap) (hs : StuckTo C N P C.length) {N' : List Int} (h' : Pl C cap N') : doneN N' ≤ doneN N := stuck_max h hs (h'.vm h.chOk hcap)
theorem VM.free (h : VM C cap N P) (hcap : CapOk cap) {j a : Nat} {p : Int} (hN : N[j]? = some (a : Int)) (hP : P[a]? = some p) : VM C cap (N.set j (-1)) (P.set a (p + 1)) := by
  refine vm_mk (by rw [List.length_set]; exact h.sh.cl) h.chOk hcap (by rw [List.length_set]; exact h.pl) (fun i v hv => ?_) (fun k hk => ?_) fun i v hv => ?_
  · by_cases hi : j = i
    · subst hi
      rw [List.getElem?_set_self (List.getElem?_eq_some_iff.1 hN).1] at hv
      injection hv with hv
      exact .inl hv.symm
    · rw [List.getElem?_set_ne hi] at hv; exact h.pl_.ok i v hv
  · have h1 := h.acc k (by rw [h.pl]; exact hk)
    rw [cntN_set hN]
    by_cases e : a = k
    · subst e
      rw [getD_some (List.getElem?_set_self (List.getElem?_eq_some_iff.1 hP).1)]
      rw [getD_some hP] at h1
      rw [if_pos rfl, if_neg (by omega)]
      omega
    · rw [List.getD_eq_getElem?_getD, List.getElem?_set_ne e, ← List.getD_eq_getElem?_getD]
      have e1 : ¬ ((a : Int) = (k : Int)) := by omega
      have e2 : ¬ ((-1 : Int) = (k : Int)) := by omega
      rw [if_neg e1, if_neg e2]; omega
  · by_cases hi : a = i
    · subst hi
      rw [List.getElem?_set_self (List.getElem?_eq_some_iff.1 hP).1] at hv
      injection hv with hv
      have := h.sh.pk a p hP
      omega
    · rw [List.getElem?_set_ne hi] at hv; exact (h.sh.pk i v hv).1
theorem VM.take (h : VM C cap N P) (hcap : CapOk cap) {j k : Nat} {p : Int} (hN : N[j]? = some (-1)) (hP : P[k]? = some p) (hp : 0 < p) (hk : ∀ l, C[j]? = some l → (k : Int) ∈ l) : VM C cap (N.set j k) (P.set k (p - 1)) := by
  have hkl : k < cap.length := by rw [← h.pl]; exact (List.getElem?_eq_some_iff.1 hP).1
  refine vm_mk (by rw [List.length_set]; exact h.sh.cl) h.chOk hcap (by rw [List.length_set]; exact h.pl) (fun i v hv => ?_) (fun q hq => ?_) fun i v hv => ?_
  · by_cases hi : j = i
    · subst hi
      rw [List.getElem?_set_self (List.getElem?_eq_some_iff.1 hN).1] at hv
      injection hv with hv
      exact .inr ⟨k, hv.symm, hkl, hk⟩
    · rw [List.getElem?_set_ne hi] at hv; exact h.pl_.ok i v hv
  · have h1 := h.acc q (by rw [h.pl]; exact hq)
    rw [cntN_set hN]
    have e2 : ¬ ((-1 : Int) = (q : Int)) := by omega
    rw [if_neg e2]
    by_cases e : k = q
    · subst e
      rw [getD_some (List.getElem?_set_self (List.getElem?_eq_some_iff.1 hP).1)]
      rw [getD_some hP] at h1
      rw [if_pos rfl]
      omega
    · rw [List.getD_eq_getElem?_getD, List.getElem?_set_ne e, ← List.getD_eq_getElem?_getD]
      have e1 : ¬ ((k : Int) = (q : Int)) := by omega
      rw [if_neg e1]; omega
  · by_cases hi : k = i
    · subst hi
      rw [List.getElem?_set_self (List.getElem?_eq_some_iff.1 hP).1] at hv
      injection hv with hv
      omega
    · rw [List.getElem?_set_ne hi] at hv; exact (h.sh.pk i v hv).1
theorem VM.reC (h : VM C cap N P) (hcap : CapOk cap) {j : Nat} {l' : List Int} (hN : N[j]? = some (-1) ∨ ∃ k : Nat, N[j]? = some (k : Int) ∧ (k : Int) ∈ l') (hl' : ∀ v ∈ l', 0 ≤ v ∧ v < cap.length) : VM (C.set j l') cap N P := by
  refine vm_mk (by rw [List.length_set]; exact h.sh.cl) (fun i l hl v hv => ?_) hcap h.pl (fun i v hv => ?_) (fun k hk => h.acc k (by rw [h.pl]; exact hk)) fun i v hv => (h.sh.pk i v hv).1
  · by_cases hi : j = i
    · subst hi
      have hj : j < C.length := by have := (List.getElem?_eq_some_iff.1 hl).1; simpa using this
      rw [List.getElem?_set_self hj] at hl
      injection hl with hl
      subst hl; exact hl' v hv
    · rw [List.getElem?_set_ne hi] at hl; exact h.chOk i l hl v hv
  · by_cases hi : j = i
    · subst hi
      rcases hN with hN | ⟨k, hN, hk⟩
      · rw [hN] at hv; injection hv with hv; exact .inl hv.symm
      · rw [hN] at hv; injection hv with hv
        refine .inr ⟨k, hv.symm, ?_, fun l hl => ?_⟩
        · have := hl' _ hk; omega
        · have hj : j < C.length := by have := (List.getElem?_eq_some_iff.1 hl).1; simpa using this
          rw [List.getElem?_set_self hj] at hl
          injection hl with hl
          subst hl; exact hk
    · rcases h.pl_.ok i v hv with h1 | ⟨k, h1, h2, h3⟩
      · exact .inl h1
      · exact .inr ⟨k, h1, h2, fun l hl => h3 l (by rw [List.getElem?_set_ne hi] at hl; exact hl)⟩
/-- the jobs before j have no choice but their nights -/
def Fixed (C : List (List Int)) (N : List Int) (j : Nat) : Prop := ∀ i, i < j → ∀ l, C[i]? = some l → ∀ v ∈ l, N[i]? = some v
structure Forced (C : List (List Int)) (cap N : List Int) (j k : Nat) (N' P' : List Int) : Prop where
  vm : VM (C.set j [(k : Int)]) cap N' P'
  at_ : N'[j]? = some (k : Int)
  front : ∀ i, i < j → N'[i]? = N[i]?
  most : (N' = N ∧ N[j]? = some (k : Int)) ∨ ∀ N'', Pl (C.set j [(k : Int)]) cap N'' → doneN N'' ≤ doneN N'
theorem Forced.same (h : VM C cap N P) (hcap : CapOk cap) {j k : Nat} (hN : N[j]? = some (k : Int)) : Forced C cap N j k N P :=
  ⟨h.reC hcap (.inr ⟨k, hN, by simp⟩) (fun v hv => by
    rw [List.mem_singleton] at hv
    subst hv
    rcases h.pl_.ok j _ hN with h1 | ⟨k', h1, h2, _⟩
    · omega
    · omega), hN, fun _ _ => rfl, .inl ⟨rfl, hN⟩⟩
theorem Forced.grown (hcap : CapOk cap) (hC : ChOk C cap.length) {j k : Nat} (hf : Fixed C N j) (hjl : j < C.length) {N3 N4 P4 : List Int} (h3s : ∀ (i : Nat) v, N3[i]? = some v → -1 ≤ v) (h3 : ∀ i, i < j → N3[i]? = N[i]?) (h3j : N3[j]? = some (k : Int)) (hk : Keep N3 N4) (h4 : VM (C.set j [(k : Int)]) cap N4 P4) (hs : StuckTo (C.set j [(k : Int)]) N4 P4 (C.set j [(k : Int)]).length) : Forced C cap N j k N4 P4 := by
  have hj4 : j < N4.length := by rw [hk.1]; exact (List.getElem?_eq_some_iff.1 h3j).1
  refine ⟨h4, ?_, fun i hi => ?_, .inr fun N'' h'' => stuck_pl h4 hcap hs h''⟩
  · obtain ⟨v, hv, h0⟩ := hk.2 j _ h3j (by omega)
    rcases h4.pl_.ok j v hv with h1 | ⟨k', h1, _, h2⟩
    · omega
    · have := h2 _ (List.getElem?_set_self hjl)
      rw [List.mem_singleton] at this
      rw [hv, h1, this]
  · have hi4 : i < N4.length := by omega
    have hv4 : N4[i]? = some N4[i] := List.getElem?_eq_getElem hi4
    have hi3 : i < N3.length := by rw [← hk.1]; exact hi4
    have hv3 : N3[i]? = some N3[i] := List.getElem?_eq_getElem hi3
    have hCi : i < C.length := by omega
    have hl : (C.set j [(k : Int)])[i]? = some C[i] := by rw [List.getElem?_set_ne (by omega)]; exact List.getElem?_eq_getElem hCi
    rcases h4.pl_.ok i _ hv4 with h1 | ⟨k', h1, _, h2⟩
    · rcases Int.lt_or_le N3[i] 0 with h5 | h5
      · have := h3s i _ hv3
        rw [← h3 i hi, hv3, hv4, h1]
        congr 1
        omega
      · obtain ⟨v', h6, h7⟩ := hk.2 i _ hv3 h5
        rw [hv4] at h6
        injection h6 with h6
        omega
    · have h5 := h2 _ hl
      have := hf i hi _ (List.getElem?_eq_getElem hCi) _ h5
      rw [this, hv4, h1]

theorem count_front {A B : List Int} {j : Nat} {k : Int} (h : ∀ i, i < j → A[i]? = B[i]?) : (A.take j).count k = (B.take j).count k := by
  have : A.take j = B.take j := List.ext_getElem? fun i => by
    rw [List.getElem?_take, List.getElem?_take]
    split
    · exact h i (by assumption)
    · rfl
  rw [this]
/-- where the night is full of jobs before j, no plan that goes on from there has job j in it -/
theorem full_none (h : VM C cap N P) {j k : Nat} (hP : P[k]? = some 0) (hno : ∀ i, j ≤ i → N[i]? ≠ some (k : Int)) {C' : List (List Int)} {N'' : List Int} (h'' : Pl C' cap N'') (hj : N''[j]? = some (k : Int)) (hf : ∀ i, i < j → N''[i]? = N[i]?) : False := by
  have hkl : k < P.length := (List.getElem?_eq_some_iff.1 hP).1
  have h1 := h.acc k hkl
  rw [getD_some hP] at h1
  have h2 := h''.cnt k (by rw [← h.pl]; exact hkl)
  have h3 : N.count (k : Int) = (N.take j).count (k : Int) := by
    conv => lhs; rw [← List.take_append_drop j N]
    have h5 : (N.drop j).count (k : Int) = 0 := List.count_eq_zero.2 fun hm => by
      obtain ⟨i, hi⟩ := List.getElem?_of_mem hm
      rw [List.getElem?_drop] at hi
      exact hno _ (by omega) hi
    rw [List.count_append, h5]; rfl
  have h4 : (N''.take j).count (k : Int) + 1 ≤ N''.count (k : Int) := by
    conv => rhs; rw [← List.take_append_drop j N'']
    rw [List.count_append]
    have : 0 < (N''.drop j).count (k : Int) := List.count_pos_iff.2 (List.mem_of_getElem? (i := 0) (by rw [List.getElem?_drop]; simpa using hj))
    omega
  rw [count_front (k := (k : Int)) hf] at h4
  unfold cntN at h1 h2
  omega
/-- no plan that goes on from the first i jobs of N and gives job i the night k does as many as goal -/
def NoPlan (C0 : List (List Int)) (cap N : List Int) (goal i k : Nat) : Prop := ∀ N', Pl C0 cap N' → N'[i]? = some (k : Int) → (∀ i', i' < i → N'[i']? = N[i']?) → doneN N' < goal
structure BestInv (C0 C : List (List Int)) (cap N P : List Int) (goal j : Nat) : Prop where
  vm : VM C cap N P
  pl0 : Pl C0 cap N
  done : doneN N = goal
  front : Fixed C N j
  back : ∀ i, j ≤ i → C[i]? = C0[i]?
  least : ∀ i, i < j → ∀ v, N[i]? = some v → ∀ k : Nat, v = -1 ∨ (k : Int) < v → NoPlan C0 cap N goal i k
theorem NoPlan.congr {goal i k : Nat} {N1 : List Int} (h : NoPlan C0 cap N goal i k) (hN : ∀ i', i' < i → N1[i']? = N[i']?) : NoPlan C0 cap N1 goal i k := fun N' h1 h2 h3 => h N' h1 h2 fun i' hi' => (h3 i' hi').trans (hN i' hi')
theorem BestInv.start (h : VM C0 cap N P) : BestInv C0 C0 cap N P (doneN N) 0 := ⟨h, h.pl_, rfl, fun i h => absurd h (Nat.not_lt_zero _), fun _ _ => rfl, fun i h => absurd h (Nat.not_lt_zero _)⟩
section
variable {goal j : Nat}
/-- a plan that goes on from the first j jobs is one of the narrowed choices -/
theorem BestInv.narrow (h : BestInv C0 C cap N P goal j) {k : Nat} {N'' : List Int} (h'' : Pl C0 cap N'') (hj : N''[j]? = some (k : Int)) (hf : ∀ i, i < j → N''[i]? = N[i]?) : Pl (C.set j [(k : Int)]) cap N'' := by
  refine ⟨by rw [List.length_set, h''.len, ← h.pl0.len, h.vm.sh.cl], fun i v hv => ?_, h''.cnt⟩
  rcases h''.ok i v hv with h1 | ⟨q, h1, h2, h3⟩
  · exact .inl h1
  · refine .inr ⟨q, h1, h2, fun l hl => ?_⟩
    by_cases hi : j = i
    · subst hi
      have hjl : j < C.length := by have := (List.getElem?_eq_some_iff.1 hl).1; simpa using this
      rw [List.getElem?_set_self hjl] at hl
      injection hl with hl
      rw [hj] at hv
      injection hv with hv
      subst hl
      rw [List.mem_singleton]; omega
    · rw [List.getElem?_set_ne hi] at hl
      rcases Nat.lt_or_ge i j with h4 | h4
      · refine h.vm.ch i q l ?_ hl
        rw [← hf i h4, hv, h1]
      · exact h3 l (by rw [← h.back i (by omega)]; exact hl)
/-- .. and a plan of the narrowed choices is one of all -/
theorem BestInv.widen (h : BestInv C0 C cap N P goal j) {k : Nat} {l0 : List Int} (hl0 : C0[j]? = some l0) (hk : (k : Int) ∈ l0) {N' : List Int} (h' : Pl (C.set j [(k : Int)]) cap N') (hf : ∀ i, i < j → N'[i]? = N[i]?) : Pl C0 cap N' := by
  have hCl : C.length = C0.length := by rw [h.vm.sh.cl, h.pl0.len]
  refine ⟨by rw [h'.len, List.length_set, hCl], fun i v hv => ?_, h'.cnt⟩
  rcases h'.ok i v hv with h1 | ⟨q, h1, h2, h3⟩
  · exact .inl h1
  · refine .inr ⟨q, h1, h2, fun l hl => ?_⟩
    by_cases hi : j = i
    · subst hi
      have hjl : j < C.length := by rw [hCl]; exact (List.getElem?_eq_some_iff.1 hl).1
      have h4 := h3 _ (List.getElem?_set_self hjl)
      rw [List.mem_singleton] at h4
      rw [hl0] at hl
      injection hl with hl
      subst hl
      rw [h4]; exact hk
    · rcases Nat.lt_or_ge i j with h4 | h4
      · rcases h.pl0.ok i v (by rw [← hf i h4, hv]) with h5 | ⟨q', h5, _, h6⟩
        · omega
        · have : q = q' := by omega
          subst this; exact h6 l hl
      · exact h3 l (by rw [List.getElem?_set_ne hi, h.back i (by omega)]; exact hl)
theorem BestInv.found (h : BestInv C0 C cap N P goal j) {k : Nat} {l0 : List Int} (hl0 : C0[j]? = some l0) (hk : (k : Int) ∈ l0) {N' P' : List Int} (g : Forced C cap N j k N' P') (hd : doneN N' = goal) (hb : ∀ k' : Nat, k' < k → NoPlan C0 cap N goal j k') : BestInv C0 (C.set j [(k : Int)]) cap N' P' goal (j + 1) := by
  refine ⟨g.vm, h.widen hl0 hk g.vm.pl_ g.front, hd, fun i hi l hl v hv => ?_, fun i hi => ?_, fun i hi v hv q hq => ?_⟩
  · by_cases e : i = j
    · subst e
      have hjl : i < C.length := by have := (List.getElem?_eq_some_iff.1 hl).1; simpa using this
      rw [List.getElem?_set_self hjl] at hl
      injection hl with hl
      subst hl
      rw [List.mem_singleton] at hv
      rw [g.at_, hv]
    · rw [List.getElem?_set_ne (by omega)] at hl
      rw [g.front i (by omega)]
      exact h.front i (by omega) l hl v hv
  · rw [List.getElem?_set_ne (by omega)]; exact h.back i (by omega)
  · by_cases e : i = j
    · subst e
      rw [g.at_] at hv
      injection hv with hv
      refine (hb q (by omega)).congr fun i' hi' => g.front i' hi'
    · refine (h.least i (by omega) v (by rw [← g.front i (by omega)]; exact hv) q hq).congr fun i' hi' => g.front i' (by omega)
theorem BestInv.fails (h : BestInv C0 C cap N P goal j) {k : Nat} {l0 : List Int} (hl0 : C0[j]? = some l0) (hk : (k : Int) ∈ l0) (hmax : ∀ N', Pl C0 cap N' → doneN N' ≤ goal) {N' P' : List Int} (g : Forced C cap N j k N' P') (hd : doneN N' ≠ goal) : NoPlan C0 cap N goal j k := fun N'' h1 h2 h3 => by
  have h4 := hmax N' (h.widen hl0 hk g.vm.pl_ g.front)
  rcases g.most with ⟨rfl, _⟩ | h5
  · exact absurd h.done hd
  · have := h5 N'' (h.narrow h1 h2 h3)
    omega
theorem BestInv.none_ (h : BestInv C0 C cap N P goal j) (hcap : CapOk cap) {l0 : List Int} (hl0 : C0[j]? = some l0) (hno : ∀ k : Nat, (k : Int) ∈ l0 → NoPlan C0 cap N goal j k) : BestInv C0 (C.set j []) cap N P goal (j + 1) ∧ N[j]? = some (-1) := by
  have hjl : j < N.length := by rw [h.pl0.len]; exact (List.getElem?_eq_some_iff.1 hl0).1
  have hN : N[j]? = some (-1) := by
    have hv : N[j]? = some N[j] := List.getElem?_eq_getElem hjl
    rcases h.pl0.ok j _ hv with h1 | ⟨k, h1, _, h3⟩
    · rw [hv, h1]
    · exfalso
      have := hno k (h3 l0 hl0) N h.pl0 (by rw [hv, h1]) (fun _ _ => rfl)
      have := h.done
      omega
  refine ⟨⟨h.vm.reC hcap (.inl hN) (fun v hv => by cases hv), h.pl0, h.done, fun i hi l hl v hv => ?_, fun i hi => ?_, fun i hi v hv q hq => ?_⟩, hN⟩
  · by_cases e : i = j
    · subst e
      have hjl : i < C.length := by have := (List.getElem?_eq_some_iff.1 hl).1; simpa using this
      rw [List.getElem?_set_self hjl] at hl
      injection hl with hl
      subst hl; cases hv
    · rw [List.getElem?_set_ne (by omega)] at hl
      exact h.front i (by omega) l hl v hv
  · rw [List.getElem?_set_ne (by omega)]; exact h.back i (by omega)
  · by_cases e : i = j
    · subst e
      intro N'' h1 h2 h3
      rcases h1.ok i _ h2 with h4 | ⟨q', h4, _, h5⟩
      · omega
      · have : q = q' := by omega
        subst this
        exact hno q (h5 l0 hl0) N'' h1 h2 h3
    · exact h.least i (by omega) v hv q hq
end
end
/-- the least of the plans that do most jobs; -1 stands behind all nights -/
structure IsBest (C : List (List Int)) (cap N : List Int) : Prop where
  pl : Pl C cap N
  most : ∀ N', Pl C cap N' → doneN N' ≤ doneN N
  least : ∀ (i : Nat) v, N[i]? = some v → ∀ k : Nat, v = -1 ∨ (k : Int) < v → NoPlan C cap N (doneN N) i k
theorem BestInv.best {C0 C : List (List Int)} {cap N P : List Int} {goal : Nat} (h : BestInv C0 C cap N P goal C0.length) (hmax : ∀ N', Pl C0 cap N' → doneN N' ≤ goal) : IsBest C0 cap N := by
  have hd := h.done
  subst hd
  exact ⟨h.pl0, hmax, fun i v hv k hk => h.least i (by rw [← h.pl0.len]; exact (List.getElem?_eq_some_iff.1 hv).1) v hv k hk⟩
theorem IsBest.one {C : List (List Int)} {cap N M : List Int} (h : IsBest C cap N) (g : IsBest C cap M) : N = M := by
  have hd : doneN N = doneN M := Nat.le_antisymm (g.most N h.pl) (h.most M g.pl)
  have key : ∀ n : Nat, ∀ i : Nat, i < n → N[i]? = M[i]? := by
    intro n
    induction n with
    | zero => intro i h; exact absurd h (Nat.not_lt_zero _)
    | succ n ih =>
      intro i hi
      rcases Nat.lt_or_ge i n with h1 | h1
      · exact ih i h1
      · obtain rfl : i = n := by omega
        rcases Nat.lt_or_ge i N.length with h2 | h2
        · have h3 : i < M.length := by rw [g.pl.len, ← h.pl.len]; exact h2
          have hv : N[i]? = some N[i] := List.getElem?_eq_getElem h2
          have hu : M[i]? = some M[i] := List.getElem?_eq_getElem h3
          generalize N[i] = v at hv
          generalize M[i] = u at hu
          by_cases e : v = u
          · rw [hv, hu, e]
          · exfalso
            rcases h.pl.ok i v hv with a1 | ⟨a, a1, _, _⟩ <;> rcases g.pl.ok i u hu with b1 | ⟨b, b1, _, _⟩
            · omega
            · subst b1
              have := h.least i v hv b (.inl a1) M g.pl hu (fun i' hi' => (ih i' hi').symm)
              omega
            · subst a1
              have := g.least i u hu a (.inl b1) N h.pl hv (fun i' hi' => ih i' hi')
              omega
            · rcases (show a < b ∨ b < a by omega) with hab | hab
              · subst a1
                have := g.least i u hu a (.inr (by omega)) N h.pl hv (fun i' hi' => ih i' hi')
                omega
              · subst b1
                have := h.least i v hv b (.inr (by omega)) M g.pl hu (fun i' hi' => (ih i' hi').symm)
                omega
        · rw [List.getElem?_eq_none h2, List.getElem?_eq_none (by rw [g.pl.len, ← h.pl.len]; exact h2)]
  exact List.ext_getElem? fun i => key (i + 1) i (Nat.lt_succ_self i)
end Go.Proofs.Ytkcfalehebacpaa
