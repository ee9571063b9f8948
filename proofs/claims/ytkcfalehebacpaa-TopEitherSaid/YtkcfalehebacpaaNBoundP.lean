/- Lists of jobs and the places of their nights: the plain law. -/
import Derived.Test.YtkcfalehebacpaaNApi
namespace Go.Proofs.Ytkcfalehebacpaa
/-- strictly ascending, from 'last' on, below n -/
def idxF (n : Nat) : Int → List Int → Bool
  | _, [] => true
  | last, x :: r => !decide (x ≤ last) && !decide ((n : Int) ≤ x) && idxF n x r
theorem idxF_drop {n : Nat} {last : Int} {l : List Int} {i : Nat} {x : Int} (h : l[i]? = some x) : idxF n last (l.drop i) = (!decide (x ≤ last) && !decide ((n : Int) ≤ x) && idxF n x (l.drop (i + 1))) := by
  obtain ⟨hi, he⟩ := List.getElem?_eq_some_iff.1 h
  rw [List.drop_eq_getElem_cons hi, he]; rfl
theorem idxF_ok {n : Nat} : ∀ {last : Int} {l : List Int}, idxF n last l = true → -1 ≤ last → (∀ v ∈ l, last < v ∧ v < n) ∧ l.Nodup
  | _, [], _, _ => ⟨fun _ h => (by cases h), List.nodup_nil⟩
  | last, x :: r, h, h0 => by
    simp only [idxF, Bool.and_eq_true, Bool.not_eq_true', decide_eq_false_iff_not] at h
    obtain ⟨⟨h1, h2⟩, h3⟩ := h
    obtain ⟨g1, g2⟩ := idxF_ok h3 (by omega)
    refine ⟨fun v hv => ?_, List.nodup_cons.2 ⟨fun hm => ?_, g2⟩⟩
    · rcases List.mem_cons.1 hv with rfl | hv
      · omega
      · have := g1 v hv; omega
    · have := g1 x hm; omega
theorem countP_range_mem {n : Nat} : ∀ {l : List Int}, l.Nodup → (∀ v ∈ l, 0 ≤ v ∧ v < n) → l.length ≤ (List.range n).countP fun i : Nat => l.contains (i : Int)
  | [], _, _ => Nat.zero_le _
  | x :: r, hn, hb => by
    obtain ⟨h1, h2⟩ := List.nodup_cons.1 hn
    have ih := countP_range_mem h2 fun v hv => hb v (by simp [hv])
    have hx := hb x (by simp)
    have h3 : 0 < (List.range n).countP fun i : Nat => decide ((i : Int) = x) := by
      rw [List.countP_pos_iff]
      exact ⟨x.toNat, by rw [List.mem_range]; omega, by rw [decide_eq_true_eq]; omega⟩
    have h4 := countP_two_le (p := fun i : Nat => decide ((i : Int) = x)) (q := fun i : Nat => r.contains (i : Int)) (r := fun i : Nat => (x :: r).contains (i : Int)) (l := List.range n) fun i _ => by
      refine ⟨fun h => ?_, fun h => ?_⟩
      · have h := of_decide_eq_true h
        rw [h]
        refine ⟨by simp, ?_⟩
        rw [List.contains_eq_mem, decide_eq_false_iff_not]
        exact h1
      · rw [List.contains_eq_mem, decide_eq_true_eq] at h ⊢
        exact List.mem_cons_of_mem _ h
    rw [List.length_cons]
    omega
theorem zipIdx_range {f : Nat → Bool} : ∀ (N : List Int) (k : Nat), (N.zipIdx k).countP (fun q => f q.2) = (List.range' k N.length).countP f
  | [], _ => rfl
  | v :: N, k => by rw [List.zipIdx_cons, List.countP_cons, zipIdx_range N (k + 1), List.length_cons, List.range'_succ, List.countP_cons]
/-- the places of the nights that one of the jobs of the list fits -/
def placeOf (js : List Job) (l : List Int) (n : Nit) : Int := if l.any fun i => fitsF (js.getD i.toNat default) n then n.pl else 0
def placesF (js : List Job) (ns : List Nit) (l : List Int) : Int := (ns.map (placeOf js l)).sum
def Zof (js : List Job) (ns : List Nit) (l : List Int) (k : Nat) : Prop := ∃ n, ns[k]? = some n ∧ (l.any fun i => fitsF (js.getD i.toNat default) n) = true
theorem sumZ_places (js : List Job) (ns : List Nit) (l : List Int) : ∀ k, k ≤ ns.length → sumZ (Zof js ns l) (fun k => (capOf ns).getD k 0) k = ((ns.take k).map (placeOf js l)).sum
  | 0, _ => rfl
  | k + 1, hk => by
    have hn : ns[k]? = some ns[k] := List.getElem?_eq_getElem (by omega)
    unfold sumZ
    rw [sumZ_places js ns l k (by omega), List.take_add_one, hn, List.map_append, List.sum_append]
    congr 1
    have hc : (capOf ns).getD k 0 = ns[k].pl := getD_some (by unfold capOf; rw [List.getElem?_map, hn]; rfl)
    simp only [Option.toList_some, List.map_cons, List.map_nil, List.sum_cons, List.sum_nil, Int.add_zero]
    unfold placeOf
    by_cases hz : (l.any fun i => fitsF (js.getD i.toNat default) ns[k]) = true
    · rw [if_pos ⟨_, hn, hz⟩, if_pos hz, hc]
    · rw [if_neg, if_neg hz]
      rintro ⟨n, h1, h2⟩
      rw [hn] at h1
      injection h1 with h1
      subst h1; exact hz h2
/-- no plan does more than a list of jobs and the places of their nights let -/
theorem most_bound {js : List Job} {ns : List Nit} {l : List Int} {n : Nat} (hcap : CapOk (capOf ns)) (h : IsMost (chooseL ns js) (capOf ns) n) (hl : idxF js.length (-1) l = true) : (n : Int) ≤ (js.length : Int) - l.length + placesF js ns l := by
  classical
  obtain ⟨N, h1, rfl⟩ := h.some_
  obtain ⟨g1, g2⟩ := idxF_ok hl (Int.le_refl _)
  have hNl : N.length = js.length := by rw [h1.len]; simp [chooseL]
  have hk := done_le (h1.vm (chooseL_ok ns js) hcap) (fun i => l.contains (i : Int)) (Zof js ns l) fun i L hT hC k hk => by
    obtain ⟨j, hj, rfl⟩ := chooseL_get hC
    obtain ⟨q, n, hq, hn, hf⟩ := chooseF_mem.1 hk
    have : k = q := by omega
    subst this
    refine ⟨n, hn, List.any_eq_true.2 ⟨(i : Int), by simpa using hT, ?_⟩⟩
    rw [Int.toNat_natCast, List.getD_eq_getElem?_getD, hj]
    exact hf
  have h2 : (restP (capOf ns) N).length = ns.length := by simp [restP, capOf]
  rw [h2, sumZ_places js ns l ns.length (Nat.le_refl _), List.take_length] at hk
  have h3 : N.zipIdx.countP (fun q => !l.contains (q.2 : Int)) + l.length ≤ js.length := by
    have e := zipIdx_range (f := fun i => !l.contains (i : Int)) N 0
    rw [e, hNl, ← List.range_eq_range']
    have h4 := countP_range_mem g2 (n := js.length) fun v hv => by have := g1 v hv; omega
    have h5 := List.length_eq_countP_add_countP (fun i : Nat => l.contains (i : Int)) (l := List.range js.length)
    rw [List.length_range] at h5
    have h6 : (List.range js.length).countP (fun i : Nat => !l.contains (i : Int)) = (List.range js.length).countP fun a : Nat => decide (¬ l.contains (a : Int) = true) := by
      congr 1
      funext a
      cases l.contains (a : Int) <;> simp
    omega
  unfold placesF
  omega
end Go.Proofs.Ytkcfalehebacpaa
