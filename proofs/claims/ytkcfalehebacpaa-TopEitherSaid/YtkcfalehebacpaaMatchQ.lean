/- A matching that cannot grow does as many jobs as any plan: the plain law. -/
import Derived.Test.YtkcfalehebacpaaMatchP
namespace Go.Proofs.Ytkcfalehebacpaa
/-- a right matching: C the nights that a job may have, cap the places of the nights -/
structure VM (C : List (List Int)) (cap N P : List Int) : Prop where
  sh : MShape C N P
  pl : P.length = cap.length
  acc : ∀ k, k < P.length → P.getD k 0 + cntN N k = cap.getD k 0
  ch : ∀ (i k : Nat) l, N[i]? = some (k : Int) → C[i]? = some l → (k : Int) ∈ l
def doneN (N : List Int) : Nat := N.countP fun v => decide (0 ≤ v)
theorem Succ.job {C : List (List Int)} {N P : List Int} {S : List Bool} {job : Nat} {N' P' : List Int} (g : Succ C N P S job N' P') {i : Nat} {v : Int} (h : N[i]? = some v) (hi : i ≠ job) : ∃ v', N'[i]? = some v' ∧ (0 ≤ v ↔ 0 ≤ v') ∧ (v < 0 → v' = v) := by
  have hl : i < N'.length := by rw [g.nl]; exact (List.getElem?_eq_some_iff.1 h).1
  obtain ⟨v', hv'⟩ : ∃ v', N'[i]? = some v' := ⟨_, List.getElem?_eq_getElem hl⟩
  refine ⟨v', hv', ?_⟩
  rcases g.other i v v' hi h hv' with e | ⟨e1, e2, _⟩
  · subst e; exact ⟨Iff.rfl, fun _ => rfl⟩
  · exact ⟨⟨fun _ => e2, fun _ => e1⟩, fun h => by omega⟩
theorem VM.succ {C : List (List Int)} {cap N P : List Int} {S : List Bool} {job : Nat} {N' P' : List Int} (h : VM C cap N P) (hj : N[job]? = some (-1)) (g : Succ C N P S job N' P') : VM C cap N' P' := by
  obtain ⟨k0, q1, q2, q3, q4⟩ := g.got
  have key : ∀ (i : Nat) v', N'[i]? = some v' → v' = -1 ∨ (0 ≤ v' ∧ v' < P.length ∧ ∀ l, C[i]? = some l → v' ∈ l) := fun i v' hv' => by
    by_cases hi : i = job
    · subst hi
      rw [q1] at hv'
      injection hv' with hv'
      exact .inr ⟨by omega, by omega, fun l hl => by rw [← hv']; exact q3 l hl⟩
    · have hl : i < N.length := by rw [← g.nl]; exact (List.getElem?_eq_some_iff.1 hv').1
      have hv : N[i]? = some N[i] := List.getElem?_eq_getElem hl
      have hb := h.sh.nk i _ hv
      rcases g.other i _ v' hi hv hv' with e | ⟨e1, e2, e3, e4, e5⟩
      · rw [← e]
        rcases (show N[i] = -1 ∨ 0 ≤ N[i] by omega) with h1 | h1
        · exact .inl h1
        · refine .inr ⟨h1, hb.2, fun l hl => ?_⟩
          have := h.ch i N[i].toNat l (by rw [hv]; congr 1; omega) hl
          rwa [show ((N[i].toNat : Nat) : Int) = N[i] by omega] at this
      · exact .inr ⟨e2, e3, e4⟩
  refine ⟨⟨by rw [h.sh.cl, g.nl], fun i l hl v hv => by rw [g.pl]; exact h.sh.ck i l hl v hv, fun i v hv => ?_, g.pos⟩, by rw [g.pl, h.pl], fun k hk => ?_, fun i k l hv hl => ?_⟩
  · rw [g.pl]
    rcases key i v hv with h1 | h1
    · have := List.length_pos_iff.2 (show P ≠ [] by rintro rfl; simp at q2); omega
    · omega
  · rw [g.pl] at hk
    have h1 := g.acc k hk
    rw [hj] at h1
    have h2 := h.acc k hk
    have : ¬ ((-1 : Int) = (k : Int)) := by omega
    simp only [Option.some.injEq, if_neg this] at h1
    omega
  · rcases key i _ hv with h1 | h1
    · omega
    · exact h1.2.2 l hl
/-- each job without a night is stuck in a closed set -/
def StuckTo (C : List (List Int)) (N P : List Int) (j : Nat) : Prop :=
  ∀ i, i < j → N[i]? = some (-1) → ∃ Z, Closed C N P Z ∧ ∀ l, C[i]? = some l → ∀ k : Nat, (k : Int) ∈ l → Z k
theorem StuckTo.succ {C : List (List Int)} {N P : List Int} {S : List Bool} {job j : Nat} {N' P' : List Int} (h : StuckTo C N P j) (hj : j ≤ job) (g : Succ C N P S job N' P') : StuckTo C N' P' j := fun i hi hN => by
  have hl : i < N.length := by rw [← g.nl]; exact (List.getElem?_eq_some_iff.1 hN).1
  have hv : N[i]? = some N[i] := List.getElem?_eq_getElem hl
  obtain ⟨v', h1, h2, h3⟩ := g.job hv (by omega)
  rw [hN] at h1
  injection h1 with h1
  have hneg : N[i] < 0 := by
    rcases Int.lt_or_le N[i] 0 with h4 | h4
    · exact h4
    · have := h2.1 h4; omega
  have := h3 hneg
  obtain ⟨Z, g1, g2⟩ := h i hi (by rw [hv]; congr 1; omega)
  exact ⟨Z, g1.succ g, g2⟩
theorem StuckTo.more {C : List (List Int)} {N P : List Int} {j : Nat} (h : StuckTo C N P j) {v : Int} (hv : N[j]? = some v) (hj : v = -1 → ∃ Z, Closed C N P Z ∧ ∀ l, C[j]? = some l → ∀ k : Nat, (k : Int) ∈ l → Z k) : StuckTo C N P (j + 1) := fun i hi hN => by
  by_cases e : i = j
  · subst e
    rw [hv] at hN
    injection hN with hN
    exact hj hN
  · exact h i (by omega) hN
theorem countP_same {f : Int → Bool} : ∀ {A B : List Int} (n : Nat), A.length = B.length → (∀ (i : Nat) a b, i < n → A[i]? = some a → B[i]? = some b → f a = f b) → (A.take n).countP f = (B.take n).countP f
  | [], [], _, _, _ => by simp
  | [], _ :: _, _, h, _ => by simp at h
  | _ :: _, [], _, h, _ => by simp at h
  | a :: A, b :: B, 0, _, _ => by simp
  | a :: A, b :: B, n + 1, h, hf => by
    simp only [List.take_succ_cons, List.countP_cons]
    rw [countP_same n (by simpa using h) fun i x y hi hx hy => hf (i + 1) x y (by omega) (by simpa using hx) (by simpa using hy), hf 0 a b (by omega) rfl rfl]
theorem countP_snoc {f : Int → Bool} {A : List Int} {i : Nat} {a : Int} (h : A[i]? = some a) : (A.take (i + 1)).countP f = (A.take i).countP f + if f a then 1 else 0 := by
  rw [List.take_add_one, h]
  simp [List.countP_append, List.countP_cons]
/-- matched jobs stay matched -/
def Keep (N N' : List Int) : Prop := N'.length = N.length ∧ ∀ (i : Nat) v, N[i]? = some v → 0 ≤ v → ∃ v', N'[i]? = some v' ∧ 0 ≤ v'
theorem Keep.refl (N : List Int) : Keep N N := ⟨rfl, fun i v h h0 => ⟨v, h, h0⟩⟩
theorem Keep.trans {A B C : List Int} (h : Keep A B) (g : Keep B C) : Keep A C := ⟨g.1.trans h.1, fun i v hv h0 => by
  obtain ⟨v1, h1, h2⟩ := h.2 i v hv h0
  exact g.2 i v1 h1 h2⟩
theorem Succ.keep {C : List (List Int)} {N P : List Int} {S : List Bool} {job : Nat} {N' P' : List Int} (g : Succ C N P S job N' P') : Keep N N' := ⟨g.nl, fun i v hv h0 => by
  by_cases hi : i = job
  · subst hi
    obtain ⟨k, h1, _⟩ := g.got
    exact ⟨k, h1, by omega⟩
  · obtain ⟨v', h1, h2, _⟩ := g.job hv hi
    exact ⟨v', h1, h2.1 h0⟩⟩
/-! counting -/
section
variable {Z : Nat → Prop}
open Classical in
noncomputable def inZ (Z : Nat → Prop) (N : List Int) : Nat := N.countP fun v => decide (0 ≤ v ∧ Z v.toNat)
open Classical in
noncomputable def sumZ (Z : Nat → Prop) (f : Nat → Int) : Nat → Int
  | 0 => 0
  | n + 1 => sumZ Z f n + if Z n then f n else 0
theorem sumZ_congr {f g : Nat → Int} : ∀ n, (∀ k, k < n → Z k → f k = g k) → sumZ Z f n = sumZ Z g n
  | 0, _ => rfl
  | n + 1, h => by
    unfold sumZ
    rw [sumZ_congr n fun k hk => h k (by omega)]
    by_cases hz : Z n
    · rw [if_pos hz, if_pos hz, h n (by omega) hz]
    · rw [if_neg hz, if_neg hz]
theorem sumZ_le {f g : Nat → Int} : ∀ n, (∀ k, k < n → Z k → f k ≤ g k) → sumZ Z f n ≤ sumZ Z g n
  | 0, _ => Int.le_refl _
  | n + 1, h => by
    unfold sumZ
    have h1 := sumZ_le n fun k hk => h k (by omega)
    by_cases hz : Z n
    · rw [if_pos hz, if_pos hz]; have := h n (by omega) hz; omega
    · rw [if_neg hz, if_neg hz]; omega
open Classical in
theorem sumZ_add {f : Nat → Int} {q : Nat} : ∀ n, sumZ Z (fun k => f k + if k = q then 1 else 0) n = sumZ Z f n + if (q < n ∧ Z q) then 1 else 0
  | 0 => by simp [sumZ]
  | n + 1 => by
    unfold sumZ
    rw [sumZ_add n]
    by_cases hq : n = q
    · subst hq
      by_cases hz : Z n
      · have h1 : ¬ (n < n ∧ Z n) := fun h => by omega
        have h2 : n < n + 1 ∧ Z n := ⟨by omega, hz⟩
        simp only [if_neg h1, if_pos h2, if_pos hz, if_true]; omega
      · have h1 : ¬ (n < n ∧ Z n) := fun h => by omega
        have h2 : ¬ (n < n + 1 ∧ Z n) := fun h => hz h.2
        simp only [if_neg h1, if_neg h2, if_neg hz]; first | done | omega
    · by_cases hl : q < n ∧ Z q
      · have h2 : q < n + 1 ∧ Z q := ⟨by omega, hl.2⟩
        simp only [if_pos hl, if_pos h2, if_neg hq]
        by_cases hz : Z n <;> simp [hz] <;> omega
      · have h2 : ¬ (q < n + 1 ∧ Z q) := fun h => hl ⟨by omega, h.2⟩
        simp only [if_neg hl, if_neg h2, if_neg hq]
        by_cases hz : Z n <;> simp [hz] <;> omega
theorem inZ_sum {n : Nat} : ∀ {N : List Int}, (∀ v ∈ N, -1 ≤ v ∧ v < n) → (inZ Z N : Int) = sumZ Z (cntN N) n
  | [], _ => by
    have : sumZ Z (cntN []) n = sumZ Z (fun _ => 0) n := sumZ_congr n fun k _ _ => by simp [cntN]
    rw [this]
    clear this
    induction n with
    | zero => rfl
    | succ n ih => unfold sumZ; rw [← ih (by simp)]; simp [inZ]
  | v :: N, h => by
    have ih := inZ_sum (N := N) (n := n) fun u hu => h u (by simp [hu])
    have hv := h v (by simp)
    by_cases h0 : 0 ≤ v
    · have e : sumZ Z (cntN (v :: N)) n = sumZ Z (fun k => cntN N k + if k = v.toNat then 1 else 0) n := sumZ_congr n fun k _ _ => by
        unfold cntN
        rw [List.count_cons]
        by_cases hk : k = v.toNat
        · have : (v == (k : Int)) = true := by simp; omega
          rw [this, if_pos hk]; simp
        · have : (v == (k : Int)) = false := by simp; omega
          rw [this, if_neg hk]; simp
      rw [e, sumZ_add, ← ih]
      unfold inZ
      rw [List.countP_cons]
      by_cases hz : Z v.toNat
      · have h1 : v.toNat < n ∧ Z v.toNat := ⟨by omega, hz⟩
        rw [if_pos h1]
        simp [h0, hz]
      · have h1 : ¬ (v.toNat < n ∧ Z v.toNat) := fun h => hz h.2
        rw [if_neg h1]
        simp [hz]
    · have e : sumZ Z (cntN (v :: N)) n = sumZ Z (cntN N) n := sumZ_congr n fun k _ _ => by
        unfold cntN
        rw [List.count_cons]
        have : (v == (k : Int)) = false := by simp; omega
        rw [this]; simp
      rw [e, ← ih]
      unfold inZ
      rw [List.countP_cons]
      simp [h0]
end
theorem countP_idx_le {f g : Int × Nat → Bool} {N : List Int} (h : ∀ (i : Nat) v, N[i]? = some v → f (v, i) = true → g (v, i) = true) : N.zipIdx.countP f ≤ N.zipIdx.countP g := List.countP_mono_left fun q hq hf => by
  obtain ⟨v, i⟩ := q
  have := List.mem_zipIdx_iff_getElem?.1 hq
  exact h i v this hf
theorem countP_two_le {α : Type} {p q r : α → Bool} : ∀ {l : List α}, (∀ x ∈ l, (p x = true → r x = true ∧ q x = false) ∧ (q x = true → r x = true)) → l.countP p + l.countP q ≤ l.countP r
  | [], _ => Nat.le_refl _
  | x :: l, h => by
    have ih := countP_two_le (l := l) fun y hy => h y (by simp [hy])
    obtain ⟨h1, h2⟩ := h x (by simp)
    rw [List.countP_cons, List.countP_cons, List.countP_cons]
    cases hp : p x <;> cases hq : q x <;> cases hr : r x <;> simp [hp, hq, hr] at h1 h2 ⊢ <;> omega
theorem countP_le_two {α : Type} {p q r : α → Bool} : ∀ {l : List α}, (∀ x ∈ l, r x = true → p x = true ∨ q x = true) → l.countP r ≤ l.countP p + l.countP q
  | [], _ => Nat.le_refl _
  | x :: l, h => by
    have ih := countP_le_two (l := l) fun y hy => h y (by simp [hy])
    have h1 := h x (by simp)
    rw [List.countP_cons, List.countP_cons, List.countP_cons]
    cases hp : p x <;> cases hq : q x <;> cases hr : r x <;> simp [hp, hq, hr] at h1 ⊢ <;> omega
theorem countP_idx {f : Int → Bool} : ∀ (N : List Int) (n : Nat), (N.zipIdx n).countP (fun q => f q.1) = N.countP f
  | [], _ => rfl
  | v :: N, n => by rw [List.zipIdx_cons, List.countP_cons, List.countP_cons, countP_idx N (n + 1)]
theorem countP_snd {f : Nat → Bool} : ∀ {N N' : List Int} (n : Nat), N.length = N'.length → (N.zipIdx n).countP (fun q => f q.2) = (N'.zipIdx n).countP (fun q => f q.2)
  | [], [], _, _ => rfl
  | [], _ :: _, _, h => by simp at h
  | _ :: _, [], _, h => by simp at h
  | a :: N, b :: N', n, h => by rw [List.zipIdx_cons, List.zipIdx_cons, List.countP_cons, List.countP_cons, countP_snd (n + 1) (by simpa using h)]
/-- the places of the nights Z bound what the jobs T do, whose nights lie in Z -/
theorem done_le {C : List (List Int)} {cap N P : List Int} (h : VM C cap N P) (T : Nat → Bool) (Z : Nat → Prop) (hT : ∀ (i : Nat) l, T i = true → C[i]? = some l → ∀ k : Nat, (k : Int) ∈ l → Z k) :
    (doneN N : Int) ≤ (N.zipIdx.countP (fun q => !T q.2) : Nat) + sumZ Z (fun k => cap.getD k 0) P.length := by
  have h1 : (inZ Z N : Int) ≤ sumZ Z (fun k => cap.getD k 0) P.length := by
    rw [inZ_sum (n := P.length) fun v hv => by obtain ⟨i, hi⟩ := List.getElem?_of_mem hv; exact h.sh.nk i v hi]
    refine sumZ_le _ fun k hk _ => ?_
    have := h.acc k hk
    have h2 : P[k]? = some P[k] := List.getElem?_eq_getElem hk
    have h3 := h.sh.pk k _ h2
    rw [List.getD_eq_getElem?_getD, h2] at this
    simp only [Option.getD_some] at this
    omega
  have h2 : doneN N ≤ N.zipIdx.countP (fun q => !T q.2) + inZ Z N := by
    classical
    have e1 : doneN N = N.zipIdx.countP fun q => decide (0 ≤ q.1) := (countP_idx (f := fun v => decide (0 ≤ v)) N 0).symm
    have e2 : inZ Z N = N.zipIdx.countP fun q => decide (0 ≤ q.1 ∧ Z q.1.toNat) := (countP_idx (f := fun v => decide (0 ≤ v ∧ Z v.toNat)) N 0).symm
    rw [e1, e2]
    refine countP_le_two fun q hq h0 => ?_
    obtain ⟨v, i⟩ := q
    have hv := List.mem_zipIdx_iff_getElem?.1 hq
    have h0' : 0 ≤ v := by simpa using h0
    by_cases ht : T i = true
    · right
      have hl : i < C.length := by rw [h.sh.cl]; exact (List.getElem?_eq_some_iff.1 hv).1
      have hC : C[i]? = some C[i] := List.getElem?_eq_getElem hl
      have hm := h.ch i v.toNat _ (by rw [hv]; congr 1; show v = _; omega) hC
      exact decide_eq_true ⟨h0', hT i _ ht hC v.toNat hm⟩
    · left
      simpa using ht
  omega
/-- a matching in which every job without a night is stuck does as many jobs as any -/
theorem stuck_max {C : List (List Int)} {cap N P N' P' : List Int} (h : VM C cap N P) (hs : StuckTo C N P C.length) (h' : VM C cap N' P') : doneN N' ≤ doneN N := by
  classical
  -- the union of the closed sets
  let Z : Nat → Prop := fun k => ∃ Z1, Closed C N P Z1 ∧ Z1 k
  have hZ : Closed C N P Z := ⟨fun k v ⟨Z1, c, hk⟩ hv => c.full k v hk hv, fun i k l h1 ⟨Z1, c, hk⟩ h3 k' hk' => ⟨Z1, c, c.stay i k l h1 hk h3 k' hk'⟩⟩
  let T : Nat → Bool := fun i => decide (∀ l, C[i]? = some l → ∀ k : Nat, (k : Int) ∈ l → Z k)
  have hT : ∀ (i : Nat) l, T i = true → C[i]? = some l → ∀ k : Nat, (k : Int) ∈ l → Z k := fun i l ht hl => (of_decide_eq_true ht) l hl
  have h1 := done_le h' T Z hT
  have hNl : N.length = N'.length := by rw [← h.sh.cl, ← h'.sh.cl]
  have hPl : P.length = P'.length := by rw [h.pl, h'.pl]
  have h2 : N'.zipIdx.countP (fun q => !T q.2) = N.zipIdx.countP (fun q => !T q.2) := countP_snd (f := fun i => !T i) 0 hNl.symm
  have h3 : sumZ Z (fun k => cap.getD k 0) P'.length = inZ Z N := by
    rw [← hPl, inZ_sum (n := P.length) fun v hv => by obtain ⟨i, hi⟩ := List.getElem?_of_mem hv; exact h.sh.nk i v hi]
    refine sumZ_congr _ fun k hk hz => ?_
    have := h.acc k hk
    have h2 : P[k]? = some P[k] := List.getElem?_eq_getElem hk
    rw [List.getD_eq_getElem?_getD, h2, hZ.full k _ hz h2] at this
    simp only [Option.getD_some] at this
    omega
  have h4 : N.zipIdx.countP (fun q => !T q.2) + inZ Z N ≤ doneN N := by
    have e1 : doneN N = N.zipIdx.countP fun q => decide (0 ≤ q.1) := (countP_idx (f := fun v => decide (0 ≤ v)) N 0).symm
    have e2 : inZ Z N = N.zipIdx.countP fun q => decide (0 ≤ q.1 ∧ Z q.1.toNat) := (countP_idx (f := fun v => decide (0 ≤ v ∧ Z v.toNat)) N 0).symm
    rw [e1, e2]
    have hT2 : ∀ (i : Nat) v, N[i]? = some v → (T i = false → 0 ≤ v) ∧ (0 ≤ v ∧ Z v.toNat → T i = true) := fun i v hv => by
      have hb := h.sh.nk i v hv
      have hl : i < C.length := by rw [h.sh.cl]; exact (List.getElem?_eq_some_iff.1 hv).1
      refine ⟨fun ht => ?_, fun ⟨h0, hz⟩ => decide_eq_true fun l hl' k hk => ?_⟩
      · rcases Int.lt_or_le v 0 with h5 | h5
        · exfalso
          obtain ⟨Z1, c1, c2⟩ := hs i hl (by rw [hv]; congr 1; omega)
          have : T i = true := decide_eq_true fun l hl' k hk => ⟨Z1, c1, c2 l hl' k hk⟩
          rw [this] at ht; cases ht
        · exact h5
      · exact hZ.stay i v.toNat l (by rw [hv]; congr 1; omega) hz hl' k hk
    refine countP_two_le fun q hq => ?_
    obtain ⟨v, i⟩ := q
    have hv := List.mem_zipIdx_iff_getElem?.1 hq
    obtain ⟨g1, g2⟩ := hT2 i v hv
    refine ⟨fun ht => ?_, fun hz => decide_eq_true (of_decide_eq_true hz).1⟩
    have ht' : T i = false := by simpa using ht
    refine ⟨decide_eq_true (g1 ht'), decide_eq_false fun h => ?_⟩
    rw [g2 h] at ht'
    cases ht'
  omega
end Go.Proofs.Ytkcfalehebacpaa
