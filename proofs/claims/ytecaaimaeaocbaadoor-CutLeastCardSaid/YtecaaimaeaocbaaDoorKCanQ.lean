/- CutCanonical: the plain law. A plan that is mixed and split has the same canonical plan; canonical of canonical is itself. -/
import Derived.Test.YtecaaimaeaocbaaDoorKCanApi
namespace Go.Proofs.YtecaaimaeaocbaaDoor
open Go Go.RowKit
theorem chk_iff {L K : Int} {l : List Ask} {pl : List Bat} : chkE L K l pl = 0 ↔ validK L K l = true ∧ shapedP l.length pl = true ∧ (pl.all (fun b => fitsB L K l b.ps)) = true ∧ madeB pl l = true := by
  unfold chkE
  cases validK L K l <;> cases shapedP l.length pl <;> cases pl.all (fun b => fitsB L K l b.ps) <;> cases madeB pl l <;> simp
theorem shapedP_iff {n : Nat} {pl : List Bat} : shapedP n pl = true ↔ pl.length ≤ 1000 ∧ ∀ b ∈ pl, (1 ≤ b.t ∧ b.t ≤ 1000) ∧ b.ps.length = n := by
  unfold shapedP
  simp only [Bool.and_eq_true, decide_eq_true_eq, List.all_eq_true, inB_iff]
theorem totI_cons (b : Bat) (pl : List Bat) (j : Nat) : totI (b :: pl) j = b.t * b.ps.getD j 0 + totI pl j := by
  unfold totI; rw [List.map_cons, List.sum_cons]
theorem rollsI_cons (b : Bat) (pl : List Bat) : rollsI (b :: pl) = b.t + rollsI pl := by
  unfold rollsI; rw [List.map_cons, List.sum_cons]
theorem totI_insB (j : Nat) : ∀ (out : List Bat) (b : Bat), totI (insB out b) j = totI out j + b.t * b.ps.getD j 0
  | [], b => by rw [insB, totI_cons]; exact Int.add_comm _ _
  | x :: out, b => by
    rcases cmpL_cases x.ps b.ps with h | h | h
    · rw [insB_gt h, totI_cons, totI_cons, totI_insB j out b]; omega
    · rw [insB_eq h, totI_cons, totI_cons, ← h]; dsimp only; rw [Int.add_mul]; omega
    · rw [insB_lt h, totI_cons]; omega
theorem rollsI_insB : ∀ (out : List Bat) (b : Bat), rollsI (insB out b) = rollsI out + b.t
  | [], b => by rw [insB, rollsI_cons]; exact Int.add_comm _ _
  | x :: out, b => by
    rcases cmpL_cases x.ps b.ps with h | h | h
    · rw [insB_gt h, rollsI_cons, rollsI_cons, rollsI_insB out b]; omega
    · rw [insB_eq h, rollsI_cons, rollsI_cons]; dsimp only; omega
    · rw [insB_lt h, rollsI_cons]; omega
theorem empty_getD {ps : List Int} (h : emptyB ps = true) (j : Nat) : ps.getD j 0 = 0 := by
  unfold emptyB at h
  rw [List.getD_eq_getElem?_getD]
  cases e : ps[j]? with
  | none => rfl
  | some v =>
    have := List.all_eq_true.1 h v (List.mem_of_getElem? e)
    simpa using this
theorem totI_fold (j : Nat) : ∀ (l out : List Bat), totI (l.foldl insB out) j = totI out j + totI l j
  | [], out => by simp [totI]
  | b :: l, out => by rw [List.foldl_cons, totI_fold j l, totI_insB, totI_cons]; omega
theorem rollsI_fold : ∀ (l out : List Bat), rollsI (l.foldl insB out) = rollsI out + rollsI l
  | [], out => by simp [rollsI]
  | b :: l, out => by rw [List.foldl_cons, rollsI_fold l, rollsI_insB, rollsI_cons]; omega
/-- the rolls that are cut into no pieces -/
def zeroI (pl : List Bat) : Int := rollsI (pl.filter fun b => emptyB b.ps)
theorem totI_filter (j : Nat) : ∀ pl : List Bat, totI (pl.filter fun b => !emptyB b.ps) j = totI pl j
  | [] => rfl
  | b :: pl => by
    rw [List.filter_cons, totI_cons]
    cases e : emptyB b.ps
    · rw [if_pos (by rfl), totI_cons, totI_filter j pl]
    · rw [if_neg (by decide), totI_filter j pl, empty_getD e]; omega
theorem zeroI_cons (b : Bat) (pl : List Bat) : zeroI (b :: pl) = (if emptyB b.ps then b.t else 0) + zeroI pl := by
  unfold zeroI
  rw [List.filter_cons]
  cases e : emptyB b.ps
  · rw [if_neg (by decide), if_neg (by decide), Int.zero_add]
  · rw [if_pos rfl, if_pos rfl, rollsI_cons]
theorem zeroI_snoc {pl : List Bat} {i : Nat} {b : Bat} (h : pl[i]? = some b) : zeroI (pl.take (i + 1)) = zeroI (pl.take i) + if emptyB b.ps then b.t else 0 := by
  unfold zeroI rollsI
  rw [List.take_add_one, h, Option.toList_some, List.filter_append, List.map_append, List.sum_append]
  cases e : emptyB b.ps <;> simp [e]
theorem rollsI_filter : ∀ pl : List Bat, rollsI (pl.filter fun b => !emptyB b.ps) + zeroI pl = rollsI pl
  | [] => rfl
  | b :: pl => by
    rw [List.filter_cons, rollsI_cons, zeroI_cons]
    have ih := rollsI_filter pl
    cases e : emptyB b.ps
    · rw [if_pos (by rfl), rollsI_cons, if_neg (by decide)]; omega
    · rw [if_neg (by decide), if_pos rfl]; omega
theorem totI_foldB (pl : List Bat) (j : Nat) : totI (foldB pl) j = totI pl j := by
  unfold foldB
  rw [totI_fold, totI_filter]; simp [totI]
theorem rollsI_foldB (pl : List Bat) : rollsI (foldB pl) + zeroI pl = rollsI pl := by
  have h : rollsI (foldB pl) = rollsI (pl.filter fun b => !emptyB b.ps) := by
    unfold foldB
    rw [rollsI_fold]; simp [rollsI]
  rw [h, rollsI_filter]
theorem perm_sumI {l m : List Int} (h : l.Perm m) : l.sum = m.sum := by
  induction h with
  | nil => rfl
  | cons x _ ih => rw [List.sum_cons, List.sum_cons, ih]
  | swap x y l => rw [List.sum_cons, List.sum_cons, List.sum_cons, List.sum_cons]; omega
  | trans _ _ h1 h2 => exact h1.trans h2
theorem rollsI_perm {l m : List Bat} (h : l.Perm m) : rollsI l = rollsI m := perm_sumI (h.map _)
theorem zeroI_perm {l m : List Bat} (h : l.Perm m) : zeroI l = zeroI m := rollsI_perm (h.filter _)
theorem totI_perm {l m : List Bat} (h : l.Perm m) (j : Nat) : totI l j = totI m j := perm_sumI (h.map _)
theorem madeB_of {pl pl' : List Bat} {l : List Ask} (h : ∀ j, totI pl' j = totI pl j) : madeB pl' l = madeB pl l := by
  unfold madeB askB
  simp only [h]
theorem chk_perm {L K : Int} {l : List Ask} {pl pl' : List Bat} (h : chkE L K l pl = 0) (hp : pl.Perm pl') : chkE L K l pl' = 0 := by
  obtain ⟨h1, h2, h3, h4⟩ := chk_iff.1 h
  obtain ⟨s1, s2⟩ := shapedP_iff.1 h2
  refine chk_iff.2 ⟨h1, shapedP_iff.2 ⟨by rw [← hp.length_eq]; exact s1, fun b hb => s2 b (hp.symm.subset hb)⟩, List.all_eq_true.2 fun b hb => List.all_eq_true.1 h3 b (hp.symm.subset hb), ?_⟩
  rw [madeB_of fun j => (totI_perm hp j).symm]; exact h4
theorem insB_pos : ∀ {out : List Bat} {b : Bat}, (∀ x ∈ out, 1 ≤ x.t) → 1 ≤ b.t → ∀ x ∈ insB out b, 1 ≤ x.t
  | [], b, _, hb, x, hx => by
    rw [insB, List.mem_singleton] at hx
    subst hx; exact hb
  | y :: out, b, h, hb, x, hx => by
    have hy := h y (List.mem_cons_self ..)
    rw [insB] at hx
    split at hx
    · rcases List.mem_cons.1 hx with rfl | hx
      · exact hy
      · exact insB_pos (fun z hz => h z (List.mem_cons_of_mem _ hz)) hb x hx
    · split at hx
      · rcases List.mem_cons.1 hx with rfl | hx
        · dsimp only; omega
        · exact h x (List.mem_cons_of_mem _ hx)
      · rcases List.mem_cons.1 hx with rfl | hx
        · exact hb
        · exact h x hx
theorem foldl_pos : ∀ {l out : List Bat}, (∀ x ∈ out, 1 ≤ x.t) → (∀ b ∈ l, 1 ≤ b.t) → ∀ x ∈ l.foldl insB out, 1 ≤ x.t
  | [], _, h, _, x, hx => h x hx
  | b :: l, out, h, hl, x, hx => foldl_pos (l := l) (out := insB out b) (insB_pos h (hl b (List.mem_cons_self ..))) (fun z hz => hl z (List.mem_cons_of_mem _ hz)) x hx
theorem foldB_key {pl : List Bat} {x : Bat} (h : x ∈ foldB pl) : ∃ z ∈ pl, z.ps = x.ps ∧ emptyB x.ps = false := by
  rcases foldl_keys ⟨x, h, rfl⟩ with ⟨z, hz, ez⟩ | ⟨z, hz, _⟩
  · obtain ⟨h1, h2⟩ := List.mem_filter.1 hz
    refine ⟨z, h1, ez, ?_⟩
    rw [← ez]
    simpa using h2
  · cases hz
theorem fold_chk {L K : Int} {l : List Ask} {pl : List Bat} (h : chkE L K l pl = 0) (hs : ((foldB pl).all fun b => decide (b.t ≤ 1000)) = true) : chkE L K l (foldB pl) = 0 := by
  obtain ⟨h1, h2, h3, h4⟩ := chk_iff.1 h
  obtain ⟨s1, s2⟩ := shapedP_iff.1 h2
  refine chk_iff.2 ⟨h1, shapedP_iff.2 ⟨Nat.le_trans (foldB_len pl) s1, fun b hb => ?_⟩, List.all_eq_true.2 fun b hb => ?_, ?_⟩
  · obtain ⟨z, hz, ez, _⟩ := foldB_key hb
    refine ⟨⟨foldl_pos (by simp) (fun y hy => (s2 y (List.mem_filter.1 hy).1).1.1) b hb, ?_⟩, by rw [← ez]; exact (s2 z hz).2⟩
    have := List.all_eq_true.1 hs b hb
    simpa using this
  · obtain ⟨z, hz, ez, _⟩ := foldB_key hb
    rw [← ez]
    exact List.all_eq_true.1 h3 z hz
  · rw [madeB_of fun j => totI_foldB pl j]; exact h4
theorem insB_end : ∀ {out : List Bat} {b : Bat}, (∀ x ∈ out, 0 < cmpL x.ps b.ps) → insB out b = out ++ [b]
  | [], _, _ => rfl
  | x :: out, b, h => by
    rw [insB_gt (h x (List.mem_cons_self ..)), insB_end fun y hy => h y (List.mem_cons_of_mem _ hy)]; rfl
theorem foldl_of_fall : ∀ (l out : List Bat), Fall (out ++ l) → l.foldl insB out = out ++ l
  | [], out, _ => by simp
  | b :: l, out, h => by
    have h1 : ∀ x ∈ out, 0 < cmpL x.ps b.ps := fun x hx => (List.pairwise_append.1 h).2.2 x hx b (List.mem_cons_self ..)
    rw [List.foldl_cons, insB_end h1, foldl_of_fall l (out ++ [b]) (by rw [List.append_assoc]; exact h), List.append_assoc]; rfl
theorem foldB_fall (pl : List Bat) : Fall (foldB pl) := foldl_fall List.Pairwise.nil _
theorem foldB_twice (pl : List Bat) : foldB (foldB pl) = foldB pl := by
  have h : (foldB pl).filter (fun b => !emptyB b.ps) = foldB pl := List.filter_eq_self.2 fun b hb => by
    obtain ⟨_, _, _, h⟩ := foldB_key hb
    rw [h]; rfl
  show ((foldB pl).filter fun b => !emptyB b.ps).foldl insB [] = foldB pl
  rw [h]
  exact foldl_of_fall (foldB pl) [] (foldB_fall pl)
def splitB (b : Bat) : List Bat := if 1 < b.t then [⟨1, b.ps⟩, ⟨b.t - 1, b.ps⟩] else [b]
def splitL (pl : List Bat) : List Bat := pl.flatMap splitB
theorem splitB_two {b : Bat} (h : 1 < b.t) : splitB b = [⟨1, b.ps⟩, ⟨b.t - 1, b.ps⟩] := if_pos h
theorem splitB_one {b : Bat} (h : ¬ 1 < b.t) : splitB b = [b] := if_neg h
theorem splitL_snoc {pl : List Bat} {i : Nat} {b : Bat} (h : pl[i]? = some b) : splitL (pl.take (i + 1)) = splitL (pl.take i) ++ splitB b := by
  unfold splitL
  rw [List.take_add_one, h, Option.toList_some, List.flatMap_append]; simp
theorem splitL_cons (b : Bat) (pl : List Bat) : splitL (b :: pl) = splitB b ++ splitL pl := List.flatMap_cons
theorem splitL_len (pl : List Bat) : (splitL pl).length ≤ 2 * pl.length := by
  induction pl with
  | nil => simp [splitL]
  | cons b pl ih =>
    have : (splitB b).length ≤ 2 := by unfold splitB; split <;> simp
    rw [splitL_cons, List.length_append, List.length_cons]; omega
theorem insB_two (a c : Int) (ps : List Int) : ∀ out : List Bat, insB (insB out ⟨a, ps⟩) ⟨c, ps⟩ = insB out ⟨a + c, ps⟩
  | [] => by
    show insB [⟨a, ps⟩] ⟨c, ps⟩ = [⟨a + c, ps⟩]
    rw [insB_eq (x := ⟨a, ps⟩) (b := ⟨c, ps⟩) rfl]
  | x :: out => by
    rcases cmpL_cases x.ps ps with h | h | h
    · rw [insB_gt (b := ⟨a, ps⟩) h, insB_gt (b := ⟨c, ps⟩) h, insB_gt (b := ⟨a + c, ps⟩) h, insB_two a c ps out]
    · rw [insB_eq (b := ⟨a, ps⟩) h, insB_eq (x := ⟨x.t + a, x.ps⟩) (b := ⟨c, ps⟩) h, insB_eq (b := ⟨a + c, ps⟩) h, Int.add_assoc]
    · rw [insB_lt (b := ⟨a, ps⟩) h, insB_eq (x := ⟨a, ps⟩) (b := ⟨c, ps⟩) rfl, insB_lt (b := ⟨a + c, ps⟩) h]
theorem foldl_split : ∀ (pl out : List Bat), ((splitL pl).filter fun b => !emptyB b.ps).foldl insB out = (pl.filter fun b => !emptyB b.ps).foldl insB out
  | [], _ => rfl
  | b :: pl, out => by
    rw [splitL_cons, List.filter_append, List.foldl_append, foldl_split pl, List.filter_cons]
    by_cases h : 1 < b.t
    · rw [splitB_two h]
      cases e : emptyB b.ps
      · simp only [List.filter_cons, List.filter_nil, e, Bool.not_false, if_true, List.foldl_cons, List.foldl_nil]
        rw [insB_two, show (1 : Int) + (b.t - 1) = b.t by omega]
      · simp [List.filter_cons, e]
    · rw [splitB_one h]
      cases e : emptyB b.ps <;> simp [List.filter_cons, e]
theorem foldB_split (pl : List Bat) : foldB (splitL pl) = foldB pl := foldl_split pl []
theorem totI_append (a b : List Bat) (j : Nat) : totI (a ++ b) j = totI a j + totI b j := by
  unfold totI; rw [List.map_append, List.sum_append]
theorem totI_split (j : Nat) : ∀ pl : List Bat, totI (splitL pl) j = totI pl j
  | [] => rfl
  | b :: pl => by
    rw [splitL_cons, totI_append, totI_split j pl, totI_cons]
    by_cases h : 1 < b.t
    · rw [splitB_two h, totI_cons, totI_cons, show totI [] j = 0 from rfl]
      dsimp only
      rw [Int.sub_mul]; omega
    · rw [splitB_one h, totI_cons, show totI [] j = 0 from rfl]; omega
theorem split_mem {pl : List Bat} {x : Bat} (h : x ∈ splitL pl) : ∃ b ∈ pl, x.ps = b.ps ∧ (1 ≤ b.t → 1 ≤ x.t ∧ x.t ≤ b.t) := by
  obtain ⟨b, hb, hx⟩ := List.mem_flatMap.1 h
  refine ⟨b, hb, ?_⟩
  by_cases h1 : 1 < b.t
  · rw [splitB_two h1] at hx
    simp only [List.mem_cons, List.not_mem_nil, or_false] at hx
    rcases hx with rfl | rfl
    · exact ⟨rfl, fun h => ⟨Int.le_refl _, h⟩⟩
    · exact ⟨rfl, fun h => by dsimp only; omega⟩
  · rw [splitB_one h1, List.mem_singleton] at hx
    subst hx
    exact ⟨rfl, fun h => ⟨h, Int.le_refl _⟩⟩
theorem chk_split {L K : Int} {l : List Ask} {pl : List Bat} (h : chkE L K l pl = 0) (hn : pl.length ≤ 500) : chkE L K l (splitL pl) = 0 := by
  obtain ⟨h1, h2, h3, h4⟩ := chk_iff.1 h
  obtain ⟨s1, s2⟩ := shapedP_iff.1 h2
  have h5 := splitL_len pl
  refine chk_iff.2 ⟨h1, shapedP_iff.2 ⟨by omega, fun x hx => ?_⟩, List.all_eq_true.2 fun x hx => ?_, ?_⟩
  · obtain ⟨b, hb, e, k⟩ := split_mem hx
    obtain ⟨k1, k2⟩ := s2 b hb
    have := k k1.1
    exact ⟨⟨by omega, by omega⟩, by rw [e]; exact k2⟩
  · obtain ⟨b, hb, e, _⟩ := split_mem hx
    rw [e]
    exact List.all_eq_true.1 h3 b hb
  · rw [madeB_of fun j => totI_split j pl]; exact h4
/-- mixed and split: the same canonical plan -/
theorem canon_split {L K : Int} {l : List Ask} {pl m : List Bat} (h : chkE L K l pl = 0) (hn : pl.length ≤ 500) (hp : pl.Perm m) : cnE L K l (splitL m) = cnE L K l pl ∧ cnP L K l (splitL m) = cnP L K l pl := by
  have e := chk_split (chk_perm h hp) (by rw [← hp.length_eq]; exact hn)
  have f : foldB (splitL m) = foldB pl := (foldB_split m).trans (foldB_perm hp).symm
  have c : cnE L K l (splitL m) = cnE L K l pl := by
    unfold cnE
    rw [f, if_pos e, if_pos h]
  refine ⟨c, ?_⟩
  unfold cnP
  rw [c, f]
theorem cn_two {L K : Int} {l : List Ask} {pl : List Bat} (h : chkE L K l pl = 0) : cnE L K l pl = 0 ∨ cnE L K l pl = 2 := by
  unfold cnE
  rw [if_pos h]
  cases (foldB pl).all fun b => decide (b.t ≤ 1000) <;> simp
/-- canonical of canonical, and its rolls -/
theorem canon_again {L K : Int} {l : List Ask} {pl : List Bat} (h : chkE L K l pl = 0) (h0 : cnE L K l pl = 0) : cnP L K l pl = foldB pl ∧ chkE L K l (cnP L K l pl) = 0 ∧ cnE L K l (cnP L K l pl) = 0 ∧ cnP L K l (cnP L K l pl) = cnP L K l pl ∧ rlE L K l (cnP L K l pl) + zeroI pl = rlE L K l pl := by
  have e : cnP L K l pl = foldB pl := by unfold cnP; rw [if_pos h0]
  have hs : ((foldB pl).all fun b => decide (b.t ≤ 1000)) = true := by
    unfold cnE at h0
    rw [if_pos h] at h0
    by_cases hb : ((foldB pl).all fun b => decide (b.t ≤ 1000)) = true
    · exact hb
    · rw [if_neg hb] at h0; omega
  have hc := fold_chk h hs
  have h2 : cnE L K l (foldB pl) = 0 := by
    unfold cnE
    rw [if_pos hc, foldB_twice, if_pos hs]
  refine ⟨e, by rw [e]; exact hc, by rw [e]; exact h2, ?_, ?_⟩
  · rw [e]
    unfold cnP
    rw [if_pos h2, foldB_twice]
  · rw [e]
    unfold rlE
    rw [if_pos hc, if_pos h, rollsI_foldB]
/-- no pieces: their sum is 0 -/
theorem sum_empty {ps : List Int} (h : ∀ p ∈ ps, 0 ≤ p) : decide (ps.sum = 0) = emptyB ps := by
  have key : ∀ ps : List Int, (∀ p ∈ ps, 0 ≤ p) → 0 ≤ ps.sum ∧ (ps.sum = 0 ↔ ∀ p ∈ ps, p = 0) := by
    intro ps
    induction ps with
    | nil => intro _; simp
    | cons p ps ih =>
      intro h
      obtain ⟨i1, i2⟩ := ih fun q hq => h q (List.mem_cons_of_mem _ hq)
      have h0 := h p (List.mem_cons_self ..)
      rw [List.sum_cons]
      refine ⟨by omega, fun hs q hq => ?_, fun hq => ?_⟩
      · rcases List.mem_cons.1 hq with rfl | hq
        · omega
        · exact i2.1 (by omega) q hq
      · have h1 := hq p (List.mem_cons_self ..)
        have h2 := i2.2 fun q hq2 => hq q (List.mem_cons_of_mem _ hq2)
        omega
  unfold emptyB
  rw [Bool.eq_iff_iff, decide_eq_true_eq, List.all_eq_true]
  simp only [decide_eq_true_eq]
  exact (key ps h).2
theorem sum_snoc {ps : List Int} {i : Nat} {p : Int} (h : ps[i]? = some p) : (ps.take (i + 1)).sum = (ps.take i).sum + p := by
  rw [List.take_add_one, h, Option.toList_some, List.sum_append]; simp
theorem sum_low : ∀ {ps : List Int}, (∀ p ∈ ps, 0 ≤ p ∧ p ≤ 50) → 0 ≤ ps.sum ∧ ps.sum ≤ 50 * ps.length
  | [], _ => by simp
  | p :: ps, h => by
    have ih := sum_low (ps := ps) fun q hq => h q (List.mem_cons_of_mem _ hq)
    have := h p (List.mem_cons_self ..)
    rw [List.sum_cons, List.length_cons]; push_cast; omega
end Go.Proofs.YtecaaimaeaocbaaDoor
