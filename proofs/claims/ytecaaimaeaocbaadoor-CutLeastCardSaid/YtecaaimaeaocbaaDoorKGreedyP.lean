/- The greedy plan: the plain words. -/
import Derived.Test.YtecaaimaeaocbaaDoorKCanQ
import Derived.Test.YtecaaimaeaocbaaDoorKeyP
namespace Go.Proofs.YtecaaimaeaocbaaDoor
open Go Go.RowKit
def lenF (l : List Ask) (x : Nat) : Int := match l[x % l.length]? with | some a => a.len | none => 0
def cntF (l : List Ask) (i : Nat) : Nat := match l[i]? with | some a => a.cnt.toNat | none => 0
def keyG (l : List Ask) (x : Nat) : Int := - lenF l x
def fallG (l : List Ask) : List Nat := sortK (keyG l) (List.range l.length)
def piecesG (l : List Ask) (is : List Nat) : List Nat := is.flatMap fun i => List.replicate (cntF l i) i
def bump (r : List Int) (i : Nat) : List Int := r.set i (r.getD i 0 + 1)
def putG (L K : Int) (l : List Ask) (i : Nat) : List (List Int) → List (List Int)
  | [] => [(List.replicate l.length 0).set i 1]
  | r :: R => if sizeTo K l (bump r i) (bump r i).length ≤ L + K then bump r i :: R else r :: putG L K l i R
def greedyR (L K : Int) (l : List Ask) (ps : List Nat) : List (List Int) := ps.foldl (fun R i => putG L K l i R) []
def batsG (R : List (List Int)) : List Bat := R.map fun r => ⟨1, r⟩
def queueG (l : List Ask) : List Nat := piecesG l (fallG l)
theorem lenF_at {l : List Ask} {x : Nat} {a : Ask} (h : l[x]? = some a) : lenF l x = a.len := by
  have hx := (List.getElem?_eq_some_iff.1 h).1
  unfold lenF
  rw [Nat.mod_eq_of_lt hx, h]
theorem cntF_at {l : List Ask} {x : Nat} {a : Ask} (h : l[x]? = some a) : cntF l x = a.cnt.toNat := by unfold cntF; rw [h]
theorem fall_perm (l : List Ask) : (fallG l).Perm (List.range l.length) := sortK_perm _ _
theorem fall_mem {l : List Ask} {x : Nat} : x ∈ fallG l ↔ x < l.length := by
  rw [(fall_perm l).mem_iff, List.mem_range]
theorem fall_nodup (l : List Ask) : (fallG l).Nodup := (fall_perm l).nodup_iff.2 List.nodup_range
theorem fall_len (l : List Ask) : (fallG l).length = l.length := by rw [(fall_perm l).length_eq, List.length_range]
theorem pieces_cons (l : List Ask) (i : Nat) (is : List Nat) : piecesG l (i :: is) = List.replicate (cntF l i) i ++ piecesG l is := List.flatMap_cons
theorem pieces_snoc {l : List Ask} {is : List Nat} {p i : Nat} (h : is[p]? = some i) : piecesG l (is.take (p + 1)) = piecesG l (is.take p) ++ List.replicate (cntF l i) i := by
  unfold piecesG
  rw [List.take_add_one, h, Option.toList_some, List.flatMap_append]; simp
theorem pieces_count (l : List Ask) (j : Nat) : ∀ is : List Nat, is.Nodup → (piecesG l is).count j = if j ∈ is then cntF l j else 0
  | [], _ => by simp [piecesG]
  | i :: is, h => by
    obtain ⟨h1, h2⟩ := List.nodup_cons.1 h
    rw [pieces_cons, List.count_append, pieces_count l j is h2, List.count_replicate]
    by_cases e : i = j
    · subst e
      rw [if_neg h1, if_pos (List.mem_cons_self ..)]; simp
    · have e2 : (i == j) = false := by simpa using e
      rw [e2]
      by_cases e3 : j ∈ is
      · rw [if_pos e3, if_pos (List.mem_cons_of_mem _ e3)]; simp
      · have e4 : ¬ j ∈ i :: is := fun hm => by
          rcases List.mem_cons.1 hm with hm | hm
          · exact e hm.symm
          · exact e3 hm
        rw [if_neg e3, if_neg e4]; rfl
theorem queue_count {l : List Ask} {j : Nat} (h : j < l.length) : (queueG l).count j = cntF l j := by
  unfold queueG
  rw [pieces_count l j _ (fall_nodup l), if_pos (fall_mem.2 h)]
theorem pieces_mem {l : List Ask} {is : List Nat} {x : Nat} (h : x ∈ piecesG l is) : x ∈ is := by
  obtain ⟨i, hi, hx⟩ := List.mem_flatMap.1 h
  rw [(List.mem_replicate.1 hx).2]; exact hi
theorem queue_mem {l : List Ask} {x : Nat} (h : x ∈ queueG l) : x < l.length := fall_mem.1 (pieces_mem h)
theorem cnt_ok {L K : Int} {l : List Ask} (hv : VK L K l) (i : Nat) : cntF l i ≤ 50 := by
  unfold cntF
  cases h : l[i]? with
  | none => exact Nat.zero_le _
  | some a =>
    have := (hv.ask a (List.mem_of_getElem? h)).2
    dsimp only
    omega
theorem pieces_len {L K : Int} {l : List Ask} (hv : VK L K l) : ∀ is : List Nat, (piecesG l is).length ≤ 50 * is.length
  | [] => by simp [piecesG]
  | i :: is => by
    have := pieces_len hv is
    have := cnt_ok hv i
    rw [pieces_cons, List.length_append, List.length_replicate, List.length_cons]; omega
theorem queue_len {L K : Int} {l : List Ask} (hv : VK L K l) : (queueG l).length ≤ 400 := by
  have := pieces_len hv (fallG l)
  rw [fall_len] at this
  have := hv.few
  unfold queueG
  omega
theorem greedy_snoc {L K : Int} {l : List Ask} {ps : List Nat} {m i : Nat} (h : ps[m]? = some i) : greedyR L K l (ps.take (m + 1)) = putG L K l i (greedyR L K l (ps.take m)) := by
  unfold greedyR
  rw [List.take_add_one, h, Option.toList_some, List.foldl_append]; rfl
theorem putG_len (L K : Int) (l : List Ask) (i : Nat) : ∀ R, (putG L K l i R).length ≤ R.length + 1
  | [] => by simp [putG]
  | r :: R => by
    have := putG_len L K l i R
    rw [putG]
    split <;> simp <;> omega
theorem greedy_len (L K : Int) (l : List Ask) : ∀ (ps : List Nat) (R : List (List Int)), (ps.foldl (fun R i => putG L K l i R) R).length ≤ R.length + ps.length
  | [], R => by simp
  | p :: ps, R => by
    have h1 := greedy_len L K l ps (putG L K l p R)
    have h2 := putG_len L K l p R
    rw [List.foldl_cons, List.length_cons]; omega
/-! sizes -/
theorem getD_at {ps : List Int} {i : Nat} {p : Int} (h : ps[i]? = some p) : ps.getD i 0 = p := by rw [List.getD_eq_getElem?_getD, h]; rfl
theorem size_set {K : Int} {l : List Ask} {ps : List Int} {i : Nat} {a : Ask} (ha : l[i]? = some a) (hl : ps.length = l.length) (v : Int) : ∀ m : Nat, m ≤ l.length → sizeTo K l (ps.set i v) m = sizeTo K l ps m + if i < m then (v - ps.getD i 0) * (a.len + K) else 0
  | 0, _ => by simp [sizeTo]
  | m + 1, hm => by
    have hmn : m < l.length := hm
    have h1 : l[m]? = some l[m] := List.getElem?_eq_getElem hmn
    have h2 : ps[m]? = some (ps[m]'(by omega)) := List.getElem?_eq_getElem (by omega)
    have ih := size_set (K := K) ha hl v m (by omega)
    rw [sizeTo_snoc h1 h2]
    by_cases e : i = m
    · subst e
      have h3 : (ps.set i v)[i]? = some v := by rw [List.getElem?_set, if_pos rfl, if_pos (by omega)]
      rw [sizeTo_snoc h1 h3, ih, if_neg (by omega), if_pos (by omega), getD_at h2]
      rw [ha] at h1
      injection h1 with h1
      rw [← h1, Int.sub_mul]; omega
    · have h3 : (ps.set i v)[m]? = some (ps[m]'(by omega)) := by rw [List.getElem?_set, if_neg e, h2]
      rw [sizeTo_snoc h1 h3, ih]
      by_cases e2 : i < m
      · rw [if_pos e2, if_pos (by omega)]; omega
      · rw [if_neg e2, if_neg (by omega)]; omega
theorem size_zero {K : Int} {l : List Ask} : ∀ m : Nat, m ≤ l.length → sizeTo K l (List.replicate l.length 0) m = 0
  | 0, _ => by simp [sizeTo]
  | m + 1, hm => by
    have hmn : m < l.length := hm
    have h1 : l[m]? = some l[m] := List.getElem?_eq_getElem hmn
    have h2 : (List.replicate l.length (0 : Int))[m]? = some 0 := by rw [List.getElem?_replicate, if_pos hmn]
    rw [sizeTo_snoc h1 h2, size_zero m (by omega)]; omega
theorem fresh_size {L K : Int} {l : List Ask} (hv : VK L K l) {i : Nat} (hi : i < l.length) : sizeTo K l ((List.replicate l.length 0).set i 1) l.length ≤ L + K := by
  have ha : l[i]? = some l[i] := List.getElem?_eq_getElem hi
  have h0 : (List.replicate l.length (0 : Int)).getD i 0 = 0 := getD_at (by rw [List.getElem?_replicate, if_pos hi])
  rw [size_set ha (by simp) 1 l.length (Nat.le_refl _), size_zero _ (Nat.le_refl _), if_pos hi, h0]
  have := (hv.ask l[i] (List.getElem_mem hi)).1
  omega
/-! what the rolls hold -/
def sumR (R : List (List Int)) (j : Nat) : Int := (R.map fun r => r.getD j 0).sum
structure GInv (L K : Int) (l : List Ask) (R : List (List Int)) : Prop where
  len : ∀ r ∈ R, r.length = l.length
  low : ∀ r ∈ R, ∀ p ∈ r, 0 ≤ p
  size : ∀ r ∈ R, sizeTo K l r l.length ≤ L + K
theorem getD_low {r : List Int} (h : ∀ p ∈ r, 0 ≤ p) (j : Nat) : 0 ≤ r.getD j 0 := by
  rw [List.getD_eq_getElem?_getD]
  cases e : r[j]? with
  | none => exact Int.le_refl _
  | some v => exact h v (List.mem_of_getElem? e)
theorem bump_len (r : List Int) (i : Nat) : (bump r i).length = r.length := by unfold bump; rw [List.length_set]
theorem bump_get {r : List Int} {i : Nat} (hi : i < r.length) (j : Nat) : (bump r i).getD j 0 = r.getD j 0 + if i = j then 1 else 0 := by
  unfold bump
  rw [List.getD_eq_getElem?_getD, List.getElem?_set]
  by_cases e : i = j
  · subst e
    rw [if_pos rfl, if_pos hi, if_pos rfl]; rfl
  · rw [if_neg e, if_neg e, Int.add_zero, ← List.getD_eq_getElem?_getD]
theorem bump_low {r : List Int} {i : Nat} (h : ∀ p ∈ r, 0 ≤ p) : ∀ p ∈ bump r i, 0 ≤ p := fun p hp => by
  unfold bump at hp
  rcases List.mem_or_eq_of_mem_set hp with h1 | h1
  · exact h p h1
  · have := getD_low h i
    omega
theorem sumR_cons (r : List Int) (R : List (List Int)) (j : Nat) : sumR (r :: R) j = r.getD j 0 + sumR R j := by unfold sumR; rw [List.map_cons, List.sum_cons]
theorem putG_inv {L K : Int} {l : List Ask} (hv : VK L K l) {i : Nat} (hi : i < l.length) : ∀ {R : List (List Int)}, GInv L K l R → GInv L K l (putG L K l i R) ∧ ∀ j, sumR (putG L K l i R) j = sumR R j + if i = j then 1 else 0
  | [], _ => by
    rw [putG]
    refine ⟨⟨fun r hr => ?_, fun r hr p hp => ?_, fun r hr => ?_⟩, fun j => ?_⟩
    · rw [List.mem_singleton] at hr; subst hr; simp
    · rw [List.mem_singleton] at hr; subst hr
      rcases List.mem_or_eq_of_mem_set hp with h1 | h1
      · rw [(List.mem_replicate.1 h1).2]; exact Int.le_refl _
      · omega
    · rw [List.mem_singleton] at hr; subst hr
      exact fresh_size hv hi
    · rw [sumR_cons]
      have e := bump_get (r := List.replicate l.length 0) (i := i) (by simpa using hi) j
      have h0 : ∀ j, (List.replicate l.length (0 : Int)).getD j 0 = 0 := fun j => by
        rw [List.getD_eq_getElem?_getD, List.getElem?_replicate]
        split <;> rfl
      unfold bump at e
      rw [h0, h0] at e
      rw [Int.zero_add, Int.zero_add] at e
      rw [e, Int.add_comm]
  | r :: R, h => by
    have hr : GInv L K l R := ⟨fun x hx => h.len x (List.mem_cons_of_mem _ hx), fun x hx => h.low x (List.mem_cons_of_mem _ hx), fun x hx => h.size x (List.mem_cons_of_mem _ hx)⟩
    have h1 := h.len r (List.mem_cons_self ..)
    have h2 := h.low r (List.mem_cons_self ..)
    rw [putG]
    by_cases hs : sizeTo K l (bump r i) (bump r i).length ≤ L + K
    · rw [if_pos hs]
      refine ⟨⟨fun x hx => ?_, fun x hx => ?_, fun x hx => ?_⟩, fun j => ?_⟩
      · rcases List.mem_cons.1 hx with rfl | hx
        · rw [bump_len]; exact h1
        · exact hr.len x hx
      · rcases List.mem_cons.1 hx with rfl | hx
        · exact bump_low h2
        · exact hr.low x hx
      · rcases List.mem_cons.1 hx with rfl | hx
        · rw [bump_len, h1] at hs; exact hs
        · exact hr.size x hx
      · rw [sumR_cons, sumR_cons, bump_get (by omega)]; omega
    · rw [if_neg hs]
      obtain ⟨i1, i2⟩ := putG_inv hv hi hr
      refine ⟨⟨fun x hx => ?_, fun x hx => ?_, fun x hx => ?_⟩, fun j => ?_⟩
      · rcases List.mem_cons.1 hx with rfl | hx
        · exact h1
        · exact i1.len x hx
      · rcases List.mem_cons.1 hx with rfl | hx
        · exact h2
        · exact i1.low x hx
      · rcases List.mem_cons.1 hx with rfl | hx
        · exact h.size x (List.mem_cons_self ..)
        · exact i1.size x hx
      · rw [sumR_cons, sumR_cons, i2 j]; omega
theorem greedy_inv {L K : Int} {l : List Ask} (hv : VK L K l) : ∀ (ps : List Nat) (R : List (List Int)), (∀ i ∈ ps, i < l.length) → GInv L K l R → GInv L K l (ps.foldl (fun R i => putG L K l i R) R) ∧ ∀ j, sumR (ps.foldl (fun R i => putG L K l i R) R) j = sumR R j + ps.count j
  | [], R, _, h => ⟨h, fun j => by simp⟩
  | p :: ps, R, hp, h => by
    obtain ⟨h1, h2⟩ := putG_inv hv (hp p (List.mem_cons_self ..)) h
    obtain ⟨h3, h4⟩ := greedy_inv hv ps _ (fun i hi => hp i (List.mem_cons_of_mem _ hi)) h1
    refine ⟨h3, fun j => ?_⟩
    rw [List.foldl_cons, h4, h2, List.count_cons]
    by_cases e : p = j
    · subst e; simp; omega
    · have e2 : (p == j) = false := by simpa using e
      rw [if_neg e, e2]; simp
theorem le_sumR {R : List (List Int)} (h : ∀ r ∈ R, ∀ p ∈ r, 0 ≤ p) {r : List Int} (hr : r ∈ R) (j : Nat) : r.getD j 0 ≤ sumR R j := by
  have key : ∀ R : List (List Int), (∀ r ∈ R, ∀ p ∈ r, 0 ≤ p) → 0 ≤ sumR R j ∧ ∀ r ∈ R, r.getD j 0 ≤ sumR R j := by
    intro R
    induction R with
    | nil => intro _; simp [sumR]
    | cons x R ih =>
      intro h
      obtain ⟨i1, i2⟩ := ih fun r hr => h r (List.mem_cons_of_mem _ hr)
      have h0 := getD_low (h x (List.mem_cons_self ..)) j
      rw [sumR_cons]
      refine ⟨by omega, fun r hr => ?_⟩
      rcases List.mem_cons.1 hr with rfl | hr
      · omega
      · have := i2 r hr; omega
  exact (key R h).2 r hr
theorem GInv.nil_ (L K : Int) (l : List Ask) : GInv L K l [] := ⟨fun _ h => (by cases h), fun _ h => (by cases h), fun _ h => (by cases h)⟩
/-- the rolls after the first m pieces: all numbers are small -/
theorem greedy_at {L K : Int} {l : List Ask} (hv : VK L K l) (m : Nat) : GInv L K l (greedyR L K l ((queueG l).take m)) ∧ (∀ j, sumR (greedyR L K l ((queueG l).take m)) j = ((queueG l).take m).count j) ∧ (greedyR L K l ((queueG l).take m)).length ≤ 400 := by
  obtain ⟨h1, h2⟩ := greedy_inv hv ((queueG l).take m) [] (fun i hi => queue_mem (List.mem_of_mem_take hi)) (GInv.nil_ L K l)
  refine ⟨h1, fun j => by rw [show sumR (greedyR L K l ((queueG l).take m)) j = _ from h2 j]; simp [sumR], ?_⟩
  have h3 := greedy_len L K l ((queueG l).take m) []
  have h4 := queue_len hv
  have h5 : ((queueG l).take m).length ≤ (queueG l).length := by simp; omega
  unfold greedyR
  simp at h3
  omega
theorem count_take_ok {L K : Int} {l : List Ask} (hv : VK L K l) (m j : Nat) : ((queueG l).take m).count j ≤ 50 := by
  by_cases hj : j < l.length
  · have h1 := (List.take_sublist m (queueG l)).count_le j
    rw [queue_count hj] at h1
    have := cnt_ok hv j
    omega
  · rw [List.count_eq_zero.2 fun h => hj (queue_mem (List.mem_of_mem_take h))]; omega
theorem count_next {l : List Ask} {m i : Nat} (h : (queueG l)[m]? = some i) : ((queueG l).take (m + 1)).count i = ((queueG l).take m).count i + 1 := by
  rw [List.take_add_one, h, Option.toList_some, List.count_append]; simp
/-- a roll and one piece more: all numbers are small -/
theorem bump_ok {L K : Int} {l : List Ask} (hv : VK L K l) {m i : Nat} (hm : (queueG l)[m]? = some i) {r : List Int} (hr : r ∈ greedyR L K l ((queueG l).take m)) : (∀ p ∈ r, 0 ≤ p ∧ p ≤ 50) ∧ ∀ p ∈ bump r i, 0 ≤ p ∧ p ≤ 50 := by
  obtain ⟨h1, h2, _⟩ := greedy_at hv m
  have hn := count_next hm
  have hc := count_take_ok hv (m + 1) i
  have key : ∀ j, r.getD j 0 ≤ ((queueG l).take m).count j := fun j => by
    have := le_sumR h1.low hr j
    rw [h2] at this; exact this
  have hp : ∀ p ∈ r, 0 ≤ p ∧ p ≤ 50 := fun p hp => by
    obtain ⟨j, hj⟩ := List.getElem?_of_mem hp
    have h3 := key j
    have h4 := count_take_ok hv m j
    rw [getD_at hj] at h3
    have := h1.low r hr p hp
    omega
  refine ⟨hp, fun p hb => ?_⟩
  unfold bump at hb
  rcases List.mem_or_eq_of_mem_set hb with h3 | h3
  · exact hp p h3
  · have h4 := key i
    have h5 := getD_low (h1.low r hr) i
    omega
theorem totI_bats (R : List (List Int)) (j : Nat) : totI (batsG R) j = sumR R j := by
  unfold totI batsG sumR
  rw [List.map_map]
  congr 1
  refine List.map_congr_left fun r _ => ?_
  exact Int.one_mul _
theorem rollsI_bats (R : List (List Int)) : rollsI (batsG R) = R.length := by
  unfold rollsI batsG
  rw [List.map_map]
  induction R with
  | nil => rfl
  | cons r R ih =>
    rw [List.map_cons, List.sum_cons, ih, List.length_cons]
    show (1 : Int) + _ = _
    push_cast; omega
def greedyP (L K : Int) (l : List Ask) : List Bat := batsG (greedyR L K l (queueG l))
theorem greedy_chk {L K : Int} {l : List Ask} (hk : validK L K l = true) : chkE L K l (greedyP L K l) = 0 := by
  have hv := validK_iff.1 hk
  obtain ⟨h1, h2, h3⟩ := greedy_at hv (queueG l).length
  rw [List.take_length] at h1 h2 h3
  have hp : ∀ r ∈ greedyR L K l (queueG l), ∀ p ∈ r, 0 ≤ p ∧ p ≤ 50 := fun r hr p hp => by
    obtain ⟨j, hj⟩ := List.getElem?_of_mem hp
    have h4 := le_sumR h1.low hr j
    rw [h2, getD_at hj] at h4
    have h5 := count_take_ok hv (queueG l).length j
    rw [List.take_length] at h5
    have := h1.low r hr p hp
    omega
  refine chk_iff.2 ⟨hk, shapedP_iff.2 ⟨?_, fun b hb => ?_⟩, List.all_eq_true.2 fun b hb => ?_, ?_⟩
  · unfold greedyP batsG; rw [List.length_map]; omega
  · obtain ⟨r, hr, rfl⟩ := List.mem_map.1 hb
    exact ⟨by dsimp only; omega, h1.len r hr⟩
  · obtain ⟨r, hr, rfl⟩ := List.mem_map.1 hb
    unfold fitsB
    rw [Bool.and_eq_true, decide_eq_true_eq]
    refine ⟨okP_iff.2 (hp r hr), ?_⟩
    dsimp only
    rw [h1.len r hr]
    exact h1.size r hr
  · unfold madeB
    rw [List.all_eq_true]
    intro j hj
    rw [List.mem_range] at hj
    have ha : l[j]? = some l[j] := List.getElem?_eq_getElem hj
    unfold askB
    rw [decide_eq_true_eq]
    unfold greedyP
    rw [totI_bats, h2, queue_count hj, cntF_at ha, ha]
    have := (hv.ask l[j] (List.getElem_mem hj)).2
    show ((l[j].cnt.toNat : Nat) : Int) = l[j].cnt
    omega
theorem le_rollsI {pl : List Bat} (h : ∀ b ∈ pl, 1 ≤ b.t) : (0 ≤ rollsI pl) ∧ ∀ b ∈ pl, b.t ≤ rollsI pl := by
  induction pl with
  | nil => simp [rollsI]
  | cons x pl ih =>
    obtain ⟨i1, i2⟩ := ih fun b hb => h b (List.mem_cons_of_mem _ hb)
    have h0 := h x (List.mem_cons_self ..)
    rw [rollsI_cons]
    refine ⟨by omega, fun b hb => ?_⟩
    rcases List.mem_cons.1 hb with rfl | hb
    · omega
    · have := i2 b hb; omega
theorem greedy_small {L K : Int} {l : List Ask} (hk : validK L K l = true) : ((foldB (greedyP L K l)).all fun b => decide (b.t ≤ 1000)) = true := by
  have hv := validK_iff.1 hk
  obtain ⟨_, _, h3⟩ := greedy_at hv (queueG l).length
  rw [List.take_length] at h3
  have hone : ∀ b ∈ greedyP L K l, 1 ≤ b.t := fun b hb => by
    obtain ⟨r, _, rfl⟩ := List.mem_map.1 hb
    exact Int.le_refl _
  have h4 := rollsI_foldB (greedyP L K l)
  have h5 := rollsI_bats (greedyR L K l (queueG l))
  have h6 : 0 ≤ zeroI (greedyP L K l) := (le_rollsI fun b hb => hone b (List.mem_filter.1 hb).1).1
  have h7 : ∀ b ∈ foldB (greedyP L K l), 1 ≤ b.t := foldl_pos (by simp) fun y hy => hone y (List.mem_filter.1 hy).1
  rw [List.all_eq_true]
  intro b hb
  rw [decide_eq_true_eq]
  have h8 := (le_rollsI h7).2 b hb
  unfold greedyP at *
  omega
def grE (L K : Int) (l : List Ask) : Int := if validK L K l then 0 else 40
def grP (L K : Int) (l : List Ask) : List Bat := if validK L K l then foldB (greedyP L K l) else []
/-- what Greedy returns is a right plan -/
theorem greedy_right {L K : Int} {l : List Ask} (hk : validK L K l = true) : chkE L K l (grP L K l) = 0 := by
  unfold grP
  rw [if_pos hk]
  exact fold_chk (greedy_chk hk) (greedy_small hk)
/-! the document's order of the pieces -/
def catG (l : List Ask) : Nat → List Nat
  | 0 => []
  | m + 1 => ((List.range l.length).filter fun i => decide (lenF l i = (m + 1 : Nat))) ++ catG l m
def SG (l : List Ask) (x y : Nat) : Prop := lenF l y < lenF l x ∨ (lenF l x = lenF l y ∧ x < y)
theorem fall_sorted (l : List Ask) : (fallG l).Pairwise (SG l) := by
  obtain ⟨s, h1, h2, h3⟩ := foldK_sorted (key := keyG l) (List.range l.length) 0 [] List.Pairwise.nil (fun b hb => by cases hb)
  have h4 : fallG l = s.map (·.1) := h3.symm
  have htag : ∀ x ∈ s, x.1 = x.2 := fun x hx => by
    have := h2.subset hx
    simp only [List.nil_append] at this
    obtain ⟨i, hi⟩ := List.getElem?_of_mem this
    rw [List.getElem?_zipIdx] at hi
    obtain ⟨y, hy, rfl⟩ := Option.map_eq_some_iff.1 hi
    rw [List.getElem?_range] at hy
    · injection hy with hy
      dsimp only
      omega
    · rcases Nat.lt_or_ge i l.length with h | h
      · exact h
      · rw [List.getElem?_eq_none (by simpa using h)] at hy; cases hy
  rw [h4]
  refine List.pairwise_map.2 (h1.imp_of_mem fun {x y} hx hy h => ?_)
  unfold TK keyG at h
  have e1 := htag x hx
  have e2 := htag y hy
  unfold SG
  omega
theorem cat_mem {l : List Ask} {x : Nat} : ∀ {m : Nat}, x ∈ catG l m ↔ x < l.length ∧ 1 ≤ lenF l x ∧ lenF l x ≤ m
  | 0 => by
    simp [catG]; omega
  | m + 1 => by
    rw [catG, List.mem_append, cat_mem, List.mem_filter, List.mem_range, decide_eq_true_eq]
    push_cast
    omega
theorem cat_sorted (l : List Ask) : ∀ m, (catG l m).Pairwise (SG l)
  | 0 => List.Pairwise.nil
  | m + 1 => by
    rw [catG]
    refine List.pairwise_append.2 ⟨?_, cat_sorted l m, fun x hx y hy => ?_⟩
    · refine ((List.pairwise_lt_range).filter _).imp_of_mem fun {x y} hx hy h => ?_
      have h1 := (List.mem_filter.1 hx).2
      have h2 := (List.mem_filter.1 hy).2
      rw [decide_eq_true_eq] at h1 h2
      exact .inr ⟨by omega, h⟩
    · have h1 := (List.mem_filter.1 hx).2
      rw [decide_eq_true_eq] at h1
      have h2 := (cat_mem.1 hy).2.2
      left
      push_cast at h1
      omega
theorem SG.nodup {l : List Ask} {s : List Nat} (h : s.Pairwise (SG l)) : s.Nodup := h.imp fun {x y} h e => by
  subst e
  unfold SG at h
  omega
theorem fall_cat {L K : Int} {l : List Ask} (hv : VK L K l) {m : Nat} (hm : L ≤ m) : fallG l = catG l m := by
  refine List.Perm.eq_of_pairwise (le := SG l) (fun a b _ _ g1 g2 => ?_) (fall_sorted l) (cat_sorted l m) ?_
  · unfold SG at g1 g2
    omega
  · refine (List.perm_ext_iff_of_nodup (fall_nodup l) (SG.nodup (cat_sorted l m))).2 fun x => ?_
    rw [fall_mem, cat_mem]
    constructor
    · intro h
      have ha : l[x]? = some l[x] := List.getElem?_eq_getElem h
      have := (hv.ask l[x] (List.getElem_mem h)).1
      rw [lenF_at ha]
      omega
    · exact fun h => h.1
end Go.Proofs.YtecaaimaeaocbaaDoor
