/- Jobs that have too few nights: the plain law. -/
import Derived.Test.YtkcfalehebacpaaNBoundP
namespace Go.Proofs.Ytkcfalehebacpaa
open Classical in
theorem countP_contains_le {n : Nat} : ∀ {l : List Int}, (List.range n).countP (fun i : Nat => l.contains (i : Int)) ≤ l.length
  | [] => by simp
  | x :: r => by
    have ih := countP_contains_le (n := n) (l := r)
    have h1 := countP_le_two (p := fun i : Nat => decide ((i : Int) = x)) (q := fun i : Nat => r.contains (i : Int)) (r := fun i : Nat => (x :: r).contains (i : Int)) (l := List.range n) fun i _ h => by
      rw [List.contains_eq_mem, decide_eq_true_eq] at h
      rcases List.mem_cons.1 h with h | h
      · exact .inl (decide_eq_true h)
      · right; rw [List.contains_eq_mem]; exact decide_eq_true h
    have h2 : (List.range n).countP (fun i : Nat => decide ((i : Int) = x)) ≤ 1 := by
      have h3 : (List.range n).countP (fun i : Nat => decide ((i : Int) = x)) ≤ (List.range n).count x.toNat := by
        rw [List.count]
        refine List.countP_mono_left fun i _ h => ?_
        have := of_decide_eq_true h
        simp only [beq_iff_eq]
        omega
      have h4 : (List.range n).count x.toNat ≤ 1 := List.nodup_iff_count.1 List.nodup_range _
      omega
    rw [List.length_cons]
    omega
/-- the list of jobs that stand in each other's way -/
structure Way (C : List (List Int)) (N P L : List Int) : Prop where
  nodup : L.Nodup
  lt : ∀ v ∈ L, 0 ≤ v ∧ v < N.length
  root : ∃ j, j ∈ L ∧ N[j.toNat]? = some (-1)
  full : ∀ v ∈ L, ∀ l, C[v.toNat]? = some l → ∀ k : Nat, (k : Int) ∈ l → ∀ p, P[k]? = some p → p = 0
  reach : ∀ v ∈ L, ∀ l, C[v.toNat]? = some l → ∀ (i k : Nat), N[i]? = some (k : Int) → (k : Int) ∈ l → (i : Int) ∈ L
theorem way_short {js : List Job} {ns : List Nit} {N P L : List Int} (h : VM (chooseL ns js) (capOf ns) N P) (g : Way (chooseL ns js) N P L) : placesF js ns L < L.length := by
  classical
  have hNl : N.length = js.length := by rw [← h.sh.cl]; simp [chooseL]
  have hpl : P.length = ns.length := by rw [h.pl]; simp [capOf]
  have hfit : ∀ k, k < ns.length → Zof js ns L k → ∃ v ∈ L, ∃ l, (chooseL ns js)[v.toNat]? = some l ∧ (k : Int) ∈ l := fun k hk ⟨n, h1, h2⟩ => by
    obtain ⟨v, h3, h4⟩ := List.any_eq_true.1 h2
    have hv := g.lt v h3
    have hj : js[v.toNat]? = some js[v.toNat] := List.getElem?_eq_getElem (by omega)
    refine ⟨v, h3, chooseF ns js[v.toNat], by unfold chooseL; rw [List.getElem?_map, hj]; rfl, ?_⟩
    rw [List.getD_eq_getElem?_getD, hj] at h4
    exact chooseF_mem.2 ⟨k, n, rfl, h1, h4⟩
  have e1 : placesF js ns L = sumZ (Zof js ns L) (fun k => (capOf ns).getD k 0) ns.length := by
    rw [sumZ_places js ns L ns.length (Nat.le_refl _), List.take_length]; rfl
  have e2 : sumZ (Zof js ns L) (fun k => (capOf ns).getD k 0) ns.length = sumZ (Zof js ns L) (cntN N) ns.length := sumZ_congr ns.length fun k hk hz => by
    obtain ⟨v, h1, l, h2, h3⟩ := hfit k hk hz
    have hp : P[k]? = some P[k] := List.getElem?_eq_getElem (by omega)
    have h4 := g.full v h1 l h2 k h3 _ hp
    have h5 := h.acc k (by omega)
    rw [getD_some hp, h4] at h5
    omega
  have e3 : (inZ (Zof js ns L) N : Int) = sumZ (Zof js ns L) (cntN N) ns.length := inZ_sum fun v hv => by
    obtain ⟨i, hi⟩ := List.getElem?_of_mem hv
    have := h.sh.nk i v hi
    omega
  -- the jobs of these nights are on the list, and so is one without a night
  have e4 : inZ (Zof js ns L) N ≤ (List.range N.length).countP fun i : Nat => L.contains (i : Int) && decide (N[i]? ≠ some (-1)) := by
    have e5 : inZ (Zof js ns L) N = N.zipIdx.countP fun q => decide (0 ≤ q.1 ∧ Zof js ns L q.1.toNat) := (countP_idx (f := fun v => decide (0 ≤ v ∧ Zof js ns L v.toNat)) N 0).symm
    rw [e5, List.range_eq_range', ← zipIdx_range (f := fun i : Nat => L.contains (i : Int) && decide (N[i]? ≠ some (-1))) N 0]
    refine countP_idx_le (f := fun q => decide (0 ≤ q.1 ∧ Zof js ns L q.1.toNat)) (g := fun q => L.contains (q.2 : Int) && decide (N[q.2]? ≠ some (-1))) fun i v hv hq => ?_
    obtain ⟨h1, h2⟩ := of_decide_eq_true hq
    have h3 := h.sh.nk i v hv
    obtain ⟨u, h4, l, h5, h6⟩ := hfit v.toNat (by omega) h2
    have h7 := g.reach u h4 l h5 i v.toNat (by rw [hv]; congr 1; omega) h6
    rw [Bool.and_eq_true]
    refine ⟨by rw [List.contains_eq_mem]; exact decide_eq_true h7, decide_eq_true ?_⟩
    show N[i]? ≠ some (-1)
    rw [hv]
    intro h8
    injection h8 with h8
    omega
  obtain ⟨j, hj, hjN⟩ := g.root
  have hjb := g.lt j hj
  have e6 := countP_two_le (p := fun i : Nat => decide ((i : Int) = j)) (q := fun i : Nat => L.contains (i : Int) && decide (N[i]? ≠ some (-1))) (r := fun i : Nat => L.contains (i : Int)) (l := List.range N.length) fun i _ => by
    refine ⟨fun hi => ?_, fun hi => by rw [Bool.and_eq_true] at hi; exact hi.1⟩
    have hi := of_decide_eq_true hi
    have hij : i = j.toNat := by omega
    refine ⟨by rw [List.contains_eq_mem]; exact decide_eq_true (by rw [hi]; exact hj), ?_⟩
    have : decide (N[i]? ≠ some (-1)) = false := decide_eq_false (by rw [hij, hjN]; simp)
    rw [this, Bool.and_false]
  have e7 : 0 < (List.range N.length).countP fun i : Nat => decide ((i : Int) = j) := by
    rw [List.countP_pos_iff]
    exact ⟨j.toNat, by rw [List.mem_range]; omega, decide_eq_true (by omega)⟩
  have e8 := countP_contains_le (n := N.length) (l := L)
  omega
/-- in order it is strictly ascending -/
theorem idxF_sorted {n : Nat} : ∀ {L : List Int} {last : Int}, L.Pairwise (· ≤ ·) → L.Nodup → (∀ v ∈ L, last < v ∧ v < n) → idxF n last L = true
  | [], _, _, _, _ => rfl
  | x :: r, last, h1, h2, h3 => by
    obtain ⟨a1, a2⟩ := List.pairwise_cons.1 h1
    obtain ⟨b1, b2⟩ := List.nodup_cons.1 h2
    have hx := h3 x (by simp)
    unfold idxF
    rw [idxF_sorted a2 b2 fun v hv => ⟨by
      have h4 := a1 v hv
      have h5 : x ≠ v := fun he => b1 (he ▸ hv)
      omega, (h3 v (List.mem_cons_of_mem _ hv)).2⟩]
    simp only [Bool.and_true, Bool.and_eq_true, Bool.not_eq_true', decide_eq_false_iff_not]
    omega
theorem places_perm {js : List Job} {ns : List Nit} {L M : List Int} (h : L.Perm M) : placesF js ns L = placesF js ns M := by
  unfold placesF
  congr 1
  refine List.map_congr_left fun n _ => ?_
  unfold placeOf
  have : (L.any fun i => fitsF (js.getD i.toNat default) n) = M.any fun i => fitsF (js.getD i.toNat default) n := by
    rw [Bool.eq_iff_iff, List.any_eq_true, List.any_eq_true]
    exact ⟨fun ⟨x, h1, h2⟩ => ⟨x, h.mem_iff.1 h1, h2⟩, fun ⟨x, h1, h2⟩ => ⟨x, h.mem_iff.2 h1, h2⟩⟩
  rw [this]
def sortI (L : List Int) : List Int := L.mergeSort fun x y => decide (x ≤ y)
/-- whether a list is a shortage -/
def shortB (js : List Job) (ns : List Nit) (l : List Int) : Bool := idxF js.length (-1) l && decide (placesF js ns l < l.length)
theorem way_sorted {js : List Job} {ns : List Nit} {N P L : List Int} (h : VM (chooseL ns js) (capOf ns) N P) (g : Way (chooseL ns js) N P L) : shortB js ns (sortI L) = true := by
  have hNl : N.length = js.length := by rw [← h.sh.cl]; simp [chooseL]
  have hp : (sortI L).Perm L := List.mergeSort_perm _ _
  unfold shortB
  rw [Bool.and_eq_true]
  refine ⟨idxF_sorted ?_ (hp.nodup_iff.2 g.nodup) fun v hv => ?_, decide_eq_true ?_⟩
  · have := List.pairwise_mergeSort (le := fun x y : Int => decide (x ≤ y)) (fun a b c h1 h2 => by simp only [decide_eq_true_eq] at *; omega) (fun a b => by simp only [Bool.or_eq_true, decide_eq_true_eq]; omega) L
    exact this.imp fun h => of_decide_eq_true h
  · have := g.lt v (hp.mem_iff.1 hv); omega
  · rw [places_perm hp, hp.length_eq]; exact way_short h g
/-- what is known while the search goes on: O has been looked at, Q waits -/
structure WaySo (C : List (List Int)) (N P : List Int) (j0 : Nat) (Z : Nat → Prop) (B : List Bool) (O Q : List Int) : Prop where
  nodup : (O ++ Q).Nodup
  lt : ∀ v ∈ O ++ Q, 0 ≤ v ∧ v < N.length
  len : B.length = N.length
  mark : ∀ i : Nat, B[i]? = some true ↔ (i : Int) ∈ O ++ Q
  root : (j0 : Int) ∈ O ++ Q
  good : ∀ v ∈ O ++ Q, ∀ l, C[v.toNat]? = some l → ∀ k : Nat, (k : Int) ∈ l → Z k
  reach : ∀ v ∈ O, ∀ l, C[v.toNat]? = some l → ∀ (i k : Nat), N[i]? = some (k : Int) → (k : Int) ∈ l → (i : Int) ∈ O ++ Q
section
variable {C : List (List Int)} {N P O Q : List Int} {B : List Bool} {j0 : Nat} {Z : Nat → Prop}
theorem WaySo.way (h : WaySo C N P j0 Z B O []) (hz : Closed C N P Z) (hj : N[j0]? = some (-1)) : Way C N P O := by
  have e : O ++ [] = O := List.append_nil O
  refine ⟨by rw [← e]; exact h.nodup, by rw [← e]; exact h.lt, ⟨j0, by rw [← e]; exact h.root, by rw [Int.toNat_natCast]; exact hj⟩, fun v hv l hl k hk p hp => hz.full k p (h.good v (by rw [e]; exact hv) l hl k hk) hp, fun v hv l hl i k hi hk => by
    have := h.reach v hv l hl i k hi hk
    rwa [e] at this⟩
theorem WaySo.start (hj : N[j0]? = some (-1)) (hg : ∀ l, C[j0]? = some l → ∀ k : Nat, (k : Int) ∈ l → Z k) : WaySo C N P j0 Z ((List.replicate N.length false).set j0 true) [] [(j0 : Int)] := by
  have hl := (List.getElem?_eq_some_iff.1 hj).1
  refine ⟨by simp, fun v hv => by simp at hv; omega, by simp, fun i => ?_, by simp, fun v hv l hl' k hk => ?_, fun v hv => by cases hv⟩
  · rw [List.getElem?_set]
    by_cases e : j0 = i
    · subst e; simp [hl]
    · rw [if_neg e, List.getElem?_replicate]
      constructor
      · intro h; split at h <;> cases h
      · intro h; simp at h; omega
  · simp at hv
    subst hv
    rw [Int.toNat_natCast] at hl'
    exact hg l hl' k hk
/-- one looks at the first that waits; the jobs before i have been looked through -/
structure WayAt (C : List (List Int)) (N P : List Int) (j0 : Nat) (Z : Nat → Prop) (B : List Bool) (O Q : List Int) (v : Int) (i : Nat) : Prop where
  so : WaySo C N P j0 Z B O (v :: Q)
  part : ∀ l, C[v.toNat]? = some l → ∀ (i' k : Nat), i' < i → N[i']? = some (k : Int) → (k : Int) ∈ l → (i' : Int) ∈ O ++ (v :: Q)
theorem WaySo.at_ {v : Int} (h : WaySo C N P j0 Z B O (v :: Q)) : WayAt C N P j0 Z B O Q v 0 := ⟨h, fun _ _ _ _ hi => absurd hi (Nat.not_lt_zero _)⟩
theorem WayAt.done {v : Int} (h : WayAt C N P j0 Z B O Q v N.length) : WaySo C N P j0 Z B (O ++ [v]) Q := by
  have e : (O ++ [v]) ++ Q = O ++ (v :: Q) := by simp
  obtain ⟨h1, h2, h3, h4, h5, h6, h7⟩ := h.so
  refine ⟨by rw [e]; exact h1, by rw [e]; exact h2, h3, by rw [e]; exact h4, by rw [e]; exact h5, by rw [e]; exact h6, fun u hu l hl i k hi hk => ?_⟩
  rw [e]
  rcases List.mem_append.1 hu with hu | hu
  · exact h7 u hu l hl i k hi hk
  · rw [List.mem_singleton] at hu
    subst hu
    exact h.part l hl i k (List.getElem?_eq_some_iff.1 hi).1 hi hk
theorem WayAt.skip {v : Int} {i : Nat} (h : WayAt C N P j0 Z B O Q v i) (hs : B[i]? = some true ∨ ∀ l, C[v.toNat]? = some l → ∀ k : Nat, N[i]? = some (k : Int) → (k : Int) ∉ l) : WayAt C N P j0 Z B O Q v (i + 1) := by
  refine ⟨h.so, fun l hl i' k hi hN hk => ?_⟩
  rcases Nat.lt_or_ge i' i with h1 | h1
  · exact h.part l hl i' k h1 hN hk
  · obtain rfl : i' = i := by omega
    rcases hs with hs | hs
    · exact (h.so.mark i').1 hs
    · exact absurd hk (hs l hl k hN)
theorem WayAt.take {v : Int} {i k : Nat} {l : List Int} (h : WayAt C N P j0 Z B O Q v i) (hz : Closed C N P Z) (hB : B[i]? = some false) (hN : N[i]? = some (k : Int)) (hl : C[v.toNat]? = some l) (hk : (k : Int) ∈ l) : WayAt C N P j0 Z (B.set i true) O (Q ++ [(i : Int)]) v (i + 1) := by
  have e : O ++ (v :: (Q ++ [(i : Int)])) = (O ++ (v :: Q)) ++ [(i : Int)] := by simp
  obtain ⟨h1, h2, h3, h4, h5, h6, h7⟩ := h.so
  have hno : (i : Int) ∉ O ++ (v :: Q) := fun hm => by
    have := (h4 i).2 hm
    rw [hB] at this; cases this
  have hi := (List.getElem?_eq_some_iff.1 hN).1
  have hZk : Z k := h6 v (by simp) l hl k hk
  refine ⟨⟨by rw [e]; exact List.nodup_append.2 ⟨h1, by simp, fun a ha b hb hab => by rw [List.mem_singleton] at hb; subst hb hab; exact hno ha⟩, fun u hu => ?_, by rw [List.length_set]; exact h3, fun q => ?_, by rw [e]; exact List.mem_append_left _ h5, fun u hu m hm k' hk' => ?_, fun u hu m hm i' k' hi' hk' => by rw [e]; exact List.mem_append_left _ (h7 u hu m hm i' k' hi' hk')⟩, fun m hm i' k' hi' hN' hk' => ?_⟩
  · rw [e] at hu
    rcases List.mem_append.1 hu with hu | hu
    · exact h2 u hu
    · rw [List.mem_singleton] at hu; omega
  · rw [e, List.mem_append, ← h4 q, List.mem_singleton, List.getElem?_set]
    by_cases hq : i = q
    · subst hq
      rw [if_pos rfl, if_pos (by rw [h3]; exact hi)]
      simp
    · rw [if_neg hq]
      constructor
      · exact fun h => .inl h
      · rintro (h | h)
        · exact h
        · omega
  · rw [e] at hu
    rcases List.mem_append.1 hu with hu | hu
    · exact h6 u hu m hm k' hk'
    · rw [List.mem_singleton] at hu
      subst hu
      rw [Int.toNat_natCast] at hm
      exact hz.stay i k m hN hZk hm k' hk'
  · rw [e]
    rcases Nat.lt_or_ge i' i with h9 | h9
    · exact List.mem_append_left _ (h.part m hm i' k' h9 hN' hk')
    · obtain rfl : i' = i := by omega
      simp
theorem WaySo.few (h : WaySo C N P j0 Z B O Q) : O.length + Q.length ≤ N.length := by
  have h1 := countP_range_mem h.nodup h.lt
  have h2 := List.countP_le_length (p := fun i : Nat => (O ++ Q).contains (i : Int)) (l := List.range N.length)
  rw [List.length_range] at h2
  rw [List.length_append] at h1
  omega
end
end Go.Proofs.Ytkcfalehebacpaa
