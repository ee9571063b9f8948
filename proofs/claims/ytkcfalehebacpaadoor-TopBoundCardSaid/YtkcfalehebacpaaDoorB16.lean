/- Parts of the proofs of this seat: KGreedyP, KSortG, KLaw9, TBoundP. Each part says what it proves; no condition beyond those stated there. -/
import Derived.Deep.DeepCutAuto
import Derived.Test.YtkcfalehebacpaaDoorB9
import Derived.Test.YtkcfalehebacpaaDoorB13
import Derived.Test.YtkcfalehebacpaaDoorB14
import Derived.Test.YtkcfalehebacpaaDoorB15

/- The greedy plan: the plain words. -/
namespace Go.Proofs.YtkcfalehebacpaaDoor
open Go Go.RowKit
def lenF (l : List Ask) (x : Nat) : Int := match l[x % l.length]? with | some a => a.len | none => 0
def cntF (l : List Ask) (i : Nat) : Nat := match l[i]? with | some a => a.cnt.toNat | none => 0
def keyG (l : List Ask) (x : Nat) : Int := - lenF l x
def fallG (l : List Ask) : List Nat := sortK (keyG l) (List.range l.length)
def piecesG (l : List Ask) (is : List Nat) : List Nat := is.flatMap fun i => List.replicate (cntF l i) i
def bump (r : List Int) (i : Nat) : List Int := r.set i (r.getD i 0 + 1)
def putG (L K : Int) (l : List Ask) (i : Nat) : List (List Int) → List (List Int)
  | [] => [(List.replicate l.length 0).set i 1]
  | r :: R => if sizeTo K l (bump r i) (bump r i).length ≤ L + K then bump r i :: R else r :: putG L K l i R
def greedyR (L K : Int) (l : List Ask) (ps : List Nat) : List (List Int) := ps.foldl (fun R i => putG L K l i R) []
def batsG (R : List (List Int)) : List Bat := R.map fun r => ⟨1, r⟩
def queueG (l : List Ask) : List Nat := piecesG l (fallG l)
theorem lenF_at {l : List Ask} {x : Nat} {a : Ask} (h : l[x]? = some a) : lenF l x = a.len := by
  have hx := (List.getElem?_eq_some_iff.1 h).1
  unfold lenF
  rw [Nat.mod_eq_of_lt hx, h]
theorem cntF_at {l : List Ask} {x : Nat} {a : Ask} (h : l[x]? = some a) : cntF l x = a.cnt.toNat := by unfold cntF; rw [h]
theorem fall_perm (l : List Ask) : (fallG l).Perm (List.range l.length) := sortK_perm _ _
theorem fall_mem {l : List Ask} {x : Nat} : x ∈ fallG l ↔ x < l.length := by
  rw [(fall_perm l).mem_iff, List.mem_range]
theorem fall_nodup (l : List Ask) : (fallG l).Nodup := (fall_perm l).nodup_iff.2 List.nodup_range
theorem fall_len (l : List Ask) : (fallG l).length = l.length := by rw [(fall_perm l).length_eq, List.length_range]
theorem pieces_cons (l : List Ask) (i : Nat) (is : List Nat) : piecesG l (i :: is) = List.replicate (cntF l i) i ++ piecesG l is := List.flatMap_cons
theorem pieces_snoc {l : List Ask} {is : List Nat} {p i : Nat} (h : is[p]? = some i) : piecesG l (is.take (p + 1)) = piecesG l (is.take p) ++ List.replicate (cntF l i) i := by
  unfold piecesG
  rw [List.take_add_one, h, Option.toList_some, List.flatMap_append]; simp
theorem pieces_count (l : List Ask) (j : Nat) : ∀ is : List Nat, is.Nodup → (piecesG l is).count j = if j ∈ is then cntF l j else 0
  | [], _ => by simp [piecesG]
  | i :: is, h => by
    obtain ⟨h1, h2⟩ := List.nodup_cons.1 h
    rw [pieces_cons, List.count_append, pieces_count l j is h2, List.count_replicate]
    by_cases e : i = j
    · subst e
      rw [if_neg h1, if_pos (List.mem_cons_self ..)]; simp
    · have e2 : (i == j) = false := by simpa using e
      rw [e2]
      by_cases e3 : j ∈ is
      · rw [if_pos e3, if_pos (List.mem_cons_of_mem _ e3)]; simp
      · have e4 : ¬ j ∈ i :: is := fun hm => by
          rcases List.mem_cons.1 hm with hm | hm
          · exact e hm.symm
          · exact e3 hm
        rw [if_neg e3, if_neg e4]; rfl
theorem queue_count {l : List Ask} {j : Nat} (h : j < l.length) : (queueG l).count j = cntF l j := by
  unfold queueG
  rw [pieces_count l j _ (fall_nodup l), if_pos (fall_mem.2 h)]
theorem pieces_mem {l : List Ask} {is : List Nat} {x : Nat} (h : x ∈ piecesG l is) : x ∈ is := by
  obtain ⟨i, hi, hx⟩ := List.mem_flatMap.1 h
  rw [(List.mem_replicate.1 hx).2]; exact hi
theorem queue_mem {l : List Ask} {x : Nat} (h : x ∈ queueG l) : x < l.length := fall_mem.1 (pieces_mem h)
theorem cnt_ok {L K : Int} {l : List Ask} (hv : VK L K l) (i : Nat) : cntF l i ≤ 50 := by
  unfold cntF
  cases h : l[i]? with
  | none => exact Nat.zero_le _
  | some a =>
    have := (hv.ask a (List.mem_of_getElem? h)).2
    dsimp only
    omega
theorem pieces_len {L K : Int} {l : List Ask} (hv : VK L K l) : ∀ is : List Nat, (piecesG l is).length ≤ 50 * is.length
  | [] => by simp [piecesG]
  | i :: is => by
    have := pieces_len hv is
    have := cnt_ok hv i
    rw [pieces_cons, List.length_append, List.length_replicate, List.length_cons]; omega
theorem queue_len {L K : Int} {l : List Ask} (hv : VK L K l) : (queueG l).length ≤ 400 := by
  have := pieces_len hv (fallG l)
  rw [fall_len] at this
  have := hv.few
  unfold queueG
  omega
theorem greedy_snoc {L K : Int} {l : List Ask} {ps : List Nat} {m i : Nat} (h : ps[m]? = some i) : greedyR L K l (ps.take (m + 1)) = putG L K l i (greedyR L K l (ps.take m)) := by
  unfold greedyR
  rw [List.take_add_one, h, Option.toList_some, List.foldl_append]; rfl
theorem putG_len (L K : Int) (l : List Ask) (i : Nat) : ∀ R, (putG L K l i R).length ≤ R.length + 1
  | [] => by simp [putG]
  | r :: R => by
    have := putG_len L K l i R
    rw [putG]
    split <;> simp <;> omega
theorem greedy_len (L K : Int) (l : List Ask) : ∀ (ps : List Nat) (R : List (List Int)), (ps.foldl (fun R i => putG L K l i R) R).length ≤ R.length + ps.length
  | [], R => by simp
  | p :: ps, R => by
    have h1 := greedy_len L K l ps (putG L K l p R)
    have h2 := putG_len L K l p R
    rw [List.foldl_cons, List.length_cons]; omega
/-! sizes -/
theorem getD_at {ps : List Int} {i : Nat} {p : Int} (h : ps[i]? = some p) : ps.getD i 0 = p := by rw [List.getD_eq_getElem?_getD, h]; rfl
theorem size_set {K : Int} {l : List Ask} {ps : List Int} {i : Nat} {a : Ask} (ha : l[i]? = some a) (hl : ps.length = l.length) (v : Int) : ∀ m : Nat, m ≤ l.length → sizeTo K l (ps.set i v) m = sizeTo K l ps m + if i < m then (v - ps.getD i 0) * (a.len + K) else 0
  | 0, _ => by simp [sizeTo]
  | m + 1, hm => by
    have hmn : m < l.length := hm
    have h1 : l[m]? = some l[m] := List.getElem?_eq_getElem hmn
    have h2 : ps[m]? = some (ps[m]'(by omega)) := List.getElem?_eq_getElem (by omega)
    have ih := size_set (K := K) ha hl v m (by omega)
    rw [sizeTo_snoc h1 h2]
    by_cases e : i = m
    · subst e
      have h3 : (ps.set i v)[i]? = some v := by rw [List.getElem?_set, if_pos rfl, if_pos (by omega)]
      rw [sizeTo_snoc h1 h3, ih, if_neg (by omega), if_pos (by omega), getD_at h2]
      rw [ha] at h1
      injection h1 with h1
      rw [← h1, Int.sub_mul]; omega
    · have h3 : (ps.set i v)[m]? = some (ps[m]'(by omega)) := by rw [List.getElem?_set, if_neg e, h2]
      rw [sizeTo_snoc h1 h3, ih]
      by_cases e2 : i < m
      · rw [if_pos e2, if_pos (by omega)]; omega
      · rw [if_neg e2, if_neg (by omega)]; omega
theorem size_zero {K : Int} {l : List Ask} : ∀ m : Nat, m ≤ l.length → sizeTo K l (List.replicate l.length 0) m = 0
  | 0, _ => by simp [sizeTo]
  | m + 1, hm => by
    have hmn : m < l.length := hm
    have h1 : l[m]? = some l[m] := List.getElem?_eq_getElem hmn
    have h2 : (List.replicate l.length (0 : Int))[m]? = some 0 := by rw [List.getElem?_replicate, if_pos hmn]
    rw [sizeTo_snoc h1 h2, size_zero m (by omega)]; omega
theorem fresh_size {L K : Int} {l : List Ask} (hv : VK L K l) {i : Nat} (hi : i < l.length) : sizeTo K l ((List.replicate l.length 0).set i 1) l.length ≤ L + K := by
  have ha : l[i]? = some l[i] := List.getElem?_eq_getElem hi
  have h0 : (List.replicate l.length (0 : Int)).getD i 0 = 0 := getD_at (by rw [List.getElem?_replicate, if_pos hi])
  rw [size_set ha (by simp) 1 l.length (Nat.le_refl _), size_zero _ (Nat.le_refl _), if_pos hi, h0]
  have := (hv.ask l[i] (List.getElem_mem hi)).1
  omega
/-! what the rolls hold -/
def sumR (R : List (List Int)) (j : Nat) : Int := (R.map fun r => r.getD j 0).sum
structure GInv (L K : Int) (l : List Ask) (R : List (List Int)) : Prop where
  len : ∀ r ∈ R, r.length = l.length
  low : ∀ r ∈ R, ∀ p ∈ r, 0 ≤ p
  size : ∀ r ∈ R, sizeTo K l r l.length ≤ L + K
theorem getD_low {r : List Int} (h : ∀ p ∈ r, 0 ≤ p) (j : Nat) : 0 ≤ r.getD j 0 := by
  rw [List.getD_eq_getElem?_getD]
  cases e : r[j]? with
  | none => exact Int.le_refl _
  | some v => exact h v (List.mem_of_getElem? e)
theorem bump_len (r : List Int) (i : Nat) : (bump r i).length = r.length := by unfold bump; rw [List.length_set]
theorem bump_get {r : List Int} {i : Nat} (hi : i < r.length) (j : Nat) : (bump r i).getD j 0 = r.getD j 0 + if i = j then 1 else 0 := by
  unfold bump
  rw [List.getD_eq_getElem?_getD, List.getElem?_set]
  by_cases e : i = j
  · subst e
    rw [if_pos rfl, if_pos hi, if_pos rfl]; rfl
  · rw [if_neg e, if_neg e, Int.add_zero, ← List.getD_eq_getElem?_getD]
theorem bump_low {r : List Int} {i : Nat} (h : ∀ p ∈ r, 0 ≤ p) : ∀ p ∈ bump r i, 0 ≤ p := fun p hp => by
  unfold bump at hp
  rcases List.mem_or_eq_of_mem_set hp with h1 | h1
  · exact h p h1
  · have := getD_low h i
    omega
theorem sumR_cons (r : List Int) (R : List (List Int)) (j : Nat) : sumR (r :: R) j = r.getD j 0 + sumR R j := by unfold sumR; rw [List.map_cons, List.sum_cons]
theorem putG_inv {L K : Int} {l : List Ask} (hv : VK L K l) {i : Nat} (hi : i < l.length) : ∀ {R : List (List Int)}, GInv L K l R → GInv L K l (putG L K l i R) ∧ ∀ j, sumR (putG L K l i R) j = sumR R j + if i = j then 1 else 0
  | [], _ => by
    rw [putG]
    refine ⟨⟨fun r hr => ?_, fun r hr p hp => ?_, fun r hr => ?_⟩, fun j => ?_⟩
    · rw [List.mem_singleton] at hr; subst hr; simp
    · rw [List.mem_singleton] at hr; subst hr
      rcases List.mem_or_eq_of_mem_set hp with h1 | h1
      · rw [(List.mem_replicate.1 h1).2]; exact Int.le_refl _
      · omega
    · rw [List.mem_singleton] at hr; subst hr
      exact fresh_size hv hi
    · rw [sumR_cons]
      have e := bump_get (r := List.replicate l.length 0) (i := i) (by simpa using hi) j
      have h0 : ∀ j, (List.replicate l.length (0 : Int)).getD j 0 = 0 := fun j => by
        rw [List.getD_eq_getElem?_getD, List.getElem?_replicate]
        split <;> rfl
      unfold bump at e
      rw [h0, h0] at e
      rw [Int.zero_add, Int.zero_add] at e
      rw [e, Int.add_comm]
  | r :: R, h => by
    have hr : GInv L K l R := ⟨fun x hx => h.len x (List.mem_cons_of_mem _ hx), fun x hx => h.low x (List.mem_cons_of_mem _ hx), fun x hx => h.size x (List.mem_cons_of_mem _ hx)⟩
    have h1 := h.len r (List.mem_cons_self ..)
    have h2 := h.low r (List.mem_cons_self ..)
    rw [putG]
    by_cases hs : sizeTo K l (bump r i) (bump r i).length ≤ L + K
    · rw [if_pos hs]
      refine ⟨⟨fun x hx => ?_, fun x hx => ?_, fun x hx => ?_⟩, fun j => ?_⟩
      · rcases List.mem_cons.1 hx with rfl | hx
        · rw [bump_len]; exact h1
        · exact hr.len x hx
      · rcases List.mem_cons.1 hx with rfl | hx
        · exact bump_low h2
        · exact hr.low x hx
      · rcases List.mem_cons.1 hx with rfl | hx
        · rw [bump_len, h1] at hs; exact hs
        · exact hr.size x hx
      · rw [sumR_cons, sumR_cons, bump_get (by omega)]; omega
    · rw [if_neg hs]
      obtain ⟨i1, i2⟩ := putG_inv hv hi hr
      refine ⟨⟨fun x hx => ?_, fun x hx => ?_, fun x hx => ?_⟩, fun j => ?_⟩
      · rcases List.mem_cons.1 hx with rfl | hx
        · exact h1
        · exact i1.len x hx
      · rcases List.mem_cons.1 hx with rfl | hx
        · exact h2
        · exact i1.low x hx
      · rcases List.mem_cons.1 hx with rfl | hx
        · exact h.size x (List.mem_cons_self ..)
        · exact i1.size x hx
      · rw [sumR_cons, sumR_cons, i2 j]; omega
theorem greedy_inv {L K : Int} {l : List Ask} (hv : VK L K l) : ∀ (ps : List Nat) (R : List (List Int)), (∀ i ∈ ps, i < l.length) → GInv L K l R → GInv L K l (ps.foldl (fun R i => putG L K l i R) R) ∧ ∀ j, sumR (ps.foldl (fun R i => putG L K l i R) R) j = sumR R j + ps.count j
  | [], R, _, h => ⟨h, fun j => by simp⟩
  | p :: ps, R, hp, h => by
    obtain ⟨h1, h2⟩ := putG_inv hv (hp p (List.mem_cons_self ..)) h
    obtain ⟨h3, h4⟩ := greedy_inv hv ps _ (fun i hi => hp i (List.mem_cons_of_mem _ hi)) h1
    refine ⟨h3, fun j => ?_⟩
    rw [List.foldl_cons, h4, h2, List.count_cons]
    by_cases e : p = j
    · subst e; simp; omega
    · have e2 : (p == j) = false := by simpa using e
      rw [if_neg e, e2]; simp
theorem le_sumR {R : List (List Int)} (h : ∀ r ∈ R, ∀ p ∈ r, 0 ≤ p) {r : List Int} (hr : r ∈ R) (j : Nat) : r.getD j 0 ≤ sumR R j := by
  have key : ∀ R : List (List Int), (∀ r ∈ R, ∀ p ∈ r, 0 ≤ p) → 0 ≤ sumR R j ∧ ∀ r ∈ R, r.getD j 0 ≤ sumR R j := by
    intro R
    induction R with
    | nil => intro _; simp [sumR]
    | cons x R ih =>
      intro h
      obtain ⟨i1, i2⟩ := ih fun r hr => h r (List.mem_cons_of_mem _ hr)
      have h0 := getD_low (h x (List.mem_cons_self ..)) j
      rw [sumR_cons]
      refine ⟨by omega, fun r hr => ?_⟩
      rcases List.mem_cons.1 hr with rfl | hr
      · omega
      · have := i2 r hr; omega
  exact (key R h).2 r hr
theorem GInv.nil_ (L K : Int) (l : List Ask) : GInv L K l [] := ⟨fun _ h => (by cases h), fun _ h => (by cases h), fun _ h => (by cases h)⟩
/-- the rolls after the first m pieces: all numbers are small -/
theorem greedy_at {L K : Int} {l : List Ask} (hv : VK L K l) (m : Nat) : GInv L K l (greedyR L K l ((queueG l).take m)) ∧ (∀ j, sumR (greedyR L K l ((queueG l).take m)) j = ((queueG l).take m).count j) ∧ (greedyR L K l ((queueG l).take m)).length ≤ 400 := by
  obtain ⟨h1, h2⟩ := greedy_inv hv ((queueG l).take m) [] (fun i hi => queue_mem (List.mem_of_mem_take hi)) (GInv.nil_ L K l)
  refine ⟨h1, fun j => by rw [show sumR (greedyR L K l ((queueG l).take m)) j = _ from h2 j]; simp [sumR], ?_⟩
  have h3 := greedy_len L K l ((queueG l).take m) []
  have h4 := queue_len hv
  have h5 : ((queueG l).take m).length ≤ (queueG l).length := by simp; omega
  unfold greedyR
  simp at h3
  omega
theorem count_take_ok {L K : Int} {l : List Ask} (hv : VK L K l) (m j : Nat) : ((queueG l).take m).count j ≤ 50 := by
  by_cases hj : j < l.length
  · have h1 := (List.take_sublist m (queueG l)).count_le j
    rw [queue_count hj] at h1
    have := cnt_ok hv j
    omega
  · rw [List.count_eq_zero.2 fun h => hj (queue_mem (List.mem_of_mem_take h))]; omega
theorem count_next {l : List Ask} {m i : Nat} (h : (queueG l)[m]? = some i) : ((queueG l).take (m + 1)).count i = ((queueG l).take m).count i + 1 := by
  rw [List.take_add_one, h, Option.toList_some, List.count_append]; simp
/-- a roll and one piece more: all numbers are small -/
theorem bump_ok {L K : Int} {l : List Ask} (hv : VK L K l) {m i : Nat} (hm : (queueG l)[m]? = some i) {r : List Int} (hr : r ∈ greedyR L K l ((queueG l).take m)) : (∀ p ∈ r, 0 ≤ p ∧ p ≤ 50) ∧ ∀ p ∈ bump r i, 0 ≤ p ∧ p ≤ 50 := by
  obtain ⟨h1, h2, _⟩ := greedy_at hv m
  have hn := count_next hm
  have hc := count_take_ok hv (m + 1) i
  have key : ∀ j, r.getD j 0 ≤ ((queueG l).take m).count j := fun j => by
    have := le_sumR h1.low hr j
    rw [h2] at this; exact this
  have hp : ∀ p ∈ r, 0 ≤ p ∧ p ≤ 50 := fun p hp => by
    obtain ⟨j, hj⟩ := List.getElem?_of_mem hp
    have h3 := key j
    have h4 := count_take_ok hv m j
    rw [getD_at hj] at h3
    have := h1.low r hr p hp
    omega
  refine ⟨hp, fun p hb => ?_⟩
  unfold bump at hb
  rcases List.mem_or_eq_of_mem_set hb with h3 | h3
  · exact hp p h3
  · have h4 := key i
    have h5 := getD_low (h1.low r hr) i
    omega
theorem totI_bats (R : List (List Int)) (j : Nat) : totI (batsG R) j = sumR R j := by
  unfold totI batsG sumR
  rw [List.map_map]
  congr 1
  refine List.map_congr_left fun r _ => ?_
  exact Int.one_mul _
theorem rollsI_bats (R : List (List Int)) : rollsI (batsG R) = R.length := by
  unfold rollsI batsG
  rw [List.map_map]
  induction R with
  | nil => rfl
  | cons r R ih =>
    rw [List.map_cons, List.sum_cons, ih, List.length_cons]
    show (1 : Int) + _ = _
    push_cast; omega
def greedyP (L K : Int) (l : List Ask) : List Bat := batsG (greedyR L K l (queueG l))
theorem greedy_chk {L K : Int} {l : List Ask} (hk : validK L K l = true) : chkE L K l (greedyP L K l) = 0 := by
  have hv := validK_iff.1 hk
  obtain ⟨h1, h2, h3⟩ := greedy_at hv (queueG l).length
  rw [List.take_length] at h1 h2 h3
  have hp : ∀ r ∈ greedyR L K l (queueG l), ∀ p ∈ r, 0 ≤ p ∧ p ≤ 50 := fun r hr p hp => by
    obtain ⟨j, hj⟩ := List.getElem?_of_mem hp
    have h4 := le_sumR h1.low hr j
    rw [h2, getD_at hj] at h4
    have h5 := count_take_ok hv (queueG l).length j
    rw [List.take_length] at h5
    have := h1.low r hr p hp
    omega
  refine chk_iff.2 ⟨hk, shapedP_iff.2 ⟨?_, fun b hb => ?_⟩, List.all_eq_true.2 fun b hb => ?_, ?_⟩
  · unfold greedyP batsG; rw [List.length_map]; omega
  · obtain ⟨r, hr, rfl⟩ := List.mem_map.1 hb
    exact ⟨by dsimp only; omega, h1.len r hr⟩
  · obtain ⟨r, hr, rfl⟩ := List.mem_map.1 hb
    unfold fitsB
    rw [Bool.and_eq_true, decide_eq_true_eq]
    refine ⟨okP_iff.2 (hp r hr), ?_⟩
    dsimp only
    rw [h1.len r hr]
    exact h1.size r hr
  · unfold madeB
    rw [List.all_eq_true]
    intro j hj
    rw [List.mem_range] at hj
    have ha : l[j]? = some l[j] := List.getElem?_eq_getElem hj
    unfold askB
    rw [decide_eq_true_eq]
    unfold greedyP
    rw [totI_bats, h2, queue_count hj, cntF_at ha, ha]
    have := (hv.ask l[j] (List.getElem_mem hj)).2
    show ((l[j].cnt.toNat : Nat) : Int) = l[j].cnt
    omega
theorem le_rollsI {pl : List Bat} (h : ∀ b ∈ pl, 1 ≤ b.t) : (0 ≤ rollsI pl) ∧ ∀ b ∈ pl, b.t ≤ rollsI pl := by
  induction pl with
  | nil => simp [rollsI]
  | cons x pl ih =>
    obtain ⟨i1, i2⟩ := ih fun b hb => h b (List.mem_cons_of_mem _ hb)
    have h0 := h x (List.mem_cons_self ..)
    rw [rollsI_cons]
    refine ⟨by omega, fun b hb => ?_⟩
    rcases List.mem_cons.1 hb with rfl | hb
    · omega
    · have := i2 b hb; omega
theorem greedy_small {L K : Int} {l : List Ask} (hk : validK L K l = true) : ((foldB (greedyP L K l)).all fun b => decide (b.t ≤ 1000)) = true := by
  have hv := validK_iff.1 hk
  obtain ⟨_, _, h3⟩ := greedy_at hv (queueG l).length
  rw [List.take_length] at h3
  have hone : ∀ b ∈ greedyP L K l, 1 ≤ b.t := fun b hb => by
    obtain ⟨r, _, rfl⟩ := List.mem_map.1 hb
    exact Int.le_refl _
  have h4 := rollsI_foldB (greedyP L K l)
  have h5 := rollsI_bats (greedyR L K l (queueG l))
  have h6 : 0 ≤ zeroI (greedyP L K l) := (le_rollsI fun b hb => hone b (List.mem_filter.1 hb).1).1
  have h7 : ∀ b ∈ foldB (greedyP L K l), 1 ≤ b.t := foldl_pos (by simp) fun y hy => hone y (List.mem_filter.1 hy).1
  rw [List.all_eq_true]
  intro b hb
  rw [decide_eq_true_eq]
  have h8 := (le_rollsI h7).2 b hb
  unfold greedyP at *
  omega
def grE (L K : Int) (l : List Ask) : Int := if validK L K l then 0 else 40
def grP (L K : Int) (l : List Ask) : List Bat := if validK L K l then foldB (greedyP L K l) else []
/-- what Greedy returns is a right plan -/
theorem greedy_right {L K : Int} {l : List Ask} (hk : validK L K l = true) : chkE L K l (grP L K l) = 0 := by
  unfold grP
  rw [if_pos hk]
  exact fold_chk (greedy_chk hk) (greedy_small hk)
/-! the document's order of the pieces -/
def catG (l : List Ask) : Nat → List Nat
  | 0 => []
  | m + 1 => ((List.range l.length).filter fun i => decide (lenF l i = (m + 1 : Nat))) ++ catG l m
def SG (l : List Ask) (x y : Nat) : Prop := lenF l y < lenF l x ∨ (lenF l x = lenF l y ∧ x < y)
theorem fall_sorted (l : List Ask) : (fallG l).Pairwise (SG l) := by
  obtain ⟨s, h1, h2, h3⟩ := foldK_sorted (key := keyG l) (List.range l.length) 0 [] List.Pairwise.nil (fun b hb => by cases hb)
  have h4 : fallG l = s.map (·.1) := h3.symm
  have htag : ∀ x ∈ s, x.1 = x.2 := fun x hx => by
    have := h2.subset hx
    simp only [List.nil_append] at this
    obtain ⟨i, hi⟩ := List.getElem?_of_mem this
    rw [List.getElem?_zipIdx] at hi
    obtain ⟨y, hy, rfl⟩ := Option.map_eq_some_iff.1 hi
    rw [List.getElem?_range] at hy
    · injection hy with hy
      dsimp only
      omega
    · rcases Nat.lt_or_ge i l.length with h | h
      · exact h
      · rw [List.getElem?_eq_none (by simpa using h)] at hy; cases hy
  rw [h4]
  refine List.pairwise_map.2 (h1.imp_of_mem fun {x y} hx hy h => ?_)
  unfold TK keyG at h
  have e1 := htag x hx
  have e2 := htag y hy
  unfold SG
  omega
theorem cat_mem {l : List Ask} {x : Nat} : ∀ {m : Nat}, x ∈ catG l m ↔ x < l.length ∧ 1 ≤ lenF l x ∧ lenF l x ≤ m
  | 0 => by
    simp [catG]; omega
  | m + 1 => by
    rw [catG, List.mem_append, cat_mem, List.mem_filter, List.mem_range, decide_eq_true_eq]
    push_cast
    omega
theorem cat_sorted (l : List Ask) : ∀ m, (catG l m).Pairwise (SG l)
  | 0 => List.Pairwise.nil
  | m + 1 => by
    rw [catG]
    refine List.pairwise_append.2 ⟨?_, cat_sorted l m, fun x hx y hy => ?_⟩
    · refine ((List.pairwise_lt_range).filter _).imp_of_mem fun {x y} hx hy h => ?_
      have h1 := (List.mem_filter.1 hx).2
      have h2 := (List.mem_filter.1 hy).2
      rw [decide_eq_true_eq] at h1 h2
      exact .inr ⟨by omega, h⟩
    · have h1 := (List.mem_filter.1 hx).2
      rw [decide_eq_true_eq] at h1
      have h2 := (cat_mem.1 hy).2.2
      left
      push_cast at h1
      omega
theorem SG.nodup {l : List Ask} {s : List Nat} (h : s.Pairwise (SG l)) : s.Nodup := h.imp fun {x y} h e => by
  subst e
  unfold SG at h
  omega
theorem fall_cat {L K : Int} {l : List Ask} (hv : VK L K l) {m : Nat} (hm : L ≤ m) : fallG l = catG l m := by
  refine List.Perm.eq_of_pairwise (le := SG l) (fun a b _ _ g1 g2 => ?_) (fall_sorted l) (cat_sorted l m) ?_
  · unfold SG at g1 g2
    omega
  · refine (List.perm_ext_iff_of_nodup (fall_nodup l) (SG.nodup (cat_sorted l m))).2 fun x => ?_
    rw [fall_mem, cat_mem]
    constructor
    · intro h
      have ha : l[x]? = some l[x] := List.getElem?_eq_getElem h
      have := (hv.ask l[x] (List.getElem_mem h)).1
      rw [lenF_at ha]
      omega
    · exact fun h => h.1
end Go.Proofs.YtkcfalehebacpaaDoor

/- falling: the indexes of the asks, the longest one first: the walk. -/
namespace Go.Proofs.YtkcfalehebacpaaDoor
open Go Go.Sort Go.RowKit StabInt
def natEnc (x : Nat) : List Value := [.int .i64 (x : Int)]
def natV (n : Nat) (x : Nat) : Value := .int .i64 ((x % n : Nat) : Int)
def cfG (l : List Ask) (x y : Nat) : Int := lenF l y - lenF l x
theorem ltG (l : List Ask) (x y : Nat) : ltF (cfG l) x y = decide (keyG l x < keyG l y) := by
  unfold ltF cfG keyG
  by_cases h : - lenF l x < - lenF l y
  · rw [decide_eq_true h, decide_eq_true (by omega)]
  · rw [decide_eq_false h, decide_eq_false (by omega)]
theorem lenF_mod (l : List Ask) (x : Nat) : lenF l (x % l.length) = lenF l x := by unfold lenF; rw [Nat.mod_mod]
set_option maxHeartbeats 1000000 in
theorem fall1_any (L K : Int) (A : Option Addr) (c : Nat) (l : List Ask) (a b bj : Nat) (w : World) (ha : a < l.length) (hb : b < l.length) (hJ : Slc Ask.enc 2 w w.heap.size A l) (hbx : Blk w bj 24 #[.int .i64 L, .int .i64 K, .slice A l.length c]) (hv : VK L K l) :
    Calls Tryd.prog 31 #[.int .i64 a, .int .i64 b, .pointer (some ⟨bj, 0, none⟩)] w fun e w' => e = .returned (.int .i64 (lenF l b - lenF l a)) ∧ ∃ q, w' = w.drewN q := by
  obtain ⟨x, b1, o1, hx, hA, _, d0, d1⟩ := ask_at hJ ha
  obtain ⟨y, b2, o2, hy, hA2, _, e0, e1⟩ := ask_at hJ hb
  have HV : Hid (lenF l b - lenF l a = y.len - x.len) := by show _ = _; rw [lenF_at hx, lenF_at hy]
  have hx1 := (hv.ask x (List.mem_of_getElem? hx)).1
  have hy1 := (hv.ask y (List.mem_of_getElem? hy)).1
  obtain ⟨hL1, hL2⟩ := hv.hL
  have e9 : IntKind.i64.wrap (y.len - x.len) = y.len - x.len := IntWalk.i64_in _ (by omega)
  subst hA
  obtain ⟨rfl, rfl⟩ : b1 = b2 ∧ o1 = o2 := by simpa using hA2
  have c2 := hbx.cell_ 2 rfl
  have hai : (a : Int) < (l.length : Int) := by omega
  have hbi : (b : Int) < (l.length : Int) := by omega
  clear hx hy d1 e1 hv hx1 hy1 hL1 hL2
  rw [HV.out]
  clear HV
  go_enter Tryd.func31, Tryd.ntmps31
  go_wp2_with fail
  go_quiet (fail)
  go_wp2_with fail
  go_ret
  exact ⟨rfl, _, rfl⟩
theorem sw_below {w : World} {enc : Nat × Nat → Value} {B g off m : Nat} {dk : Array (Nat × Nat)} {os : Array Obj} (hB : B ≤ g) (hg : g < w.heap.size) : Go.RowKit.Below B w (sortWorld enc w g off m dk os) := by
  refine ⟨rfl, rfl, rfl, size_sw_c _ _ _ _ _ _ _, fun k hk => ?_⟩
  unfold sortWorld
  rw [heap_grow_old _ _ (by rw [size_putRow]; show k < w.heap.size; omega)]
  unfold putRow mapBlock
  simp only [Array.getElem?_modify]
  rw [if_neg (by omega)]
  rfl
theorem cmp_fall (L K : Int) (A : Option Addr) (c : Nat) (l : List Ask) (bj B g size : Nat) (w : World) (hn : 0 < l.length) (hJ : Slc Ask.enc 2 w B A l) (hbx : Blk w bj 24 #[.int .i64 L, .int .i64 K, .slice A l.length c]) (hv : VK L K l) (hbj : bj < B) (hB : B ≤ g) (hg : g < w.heap.size) :
    Cmp Tryd.prog 31 #[.pointer (some ⟨bj, 0, none⟩)] (encT (natV l.length)) (cfT (cfG l)) g 0 size w := fun m os dk _ x y => by
  have hb := sw_below (w := w) (enc := encT (natV l.length)) (B := B) (off := 0) (m := m) (dk := dk) (os := os) hB hg
  have hs : B ≤ (sortWorld (encT (natV l.length)) w g 0 m dk os).heap.size := Nat.le_trans (by omega) hb.size
  refine (fall1_any L K A c l (x.1 % l.length) (y.1 % l.length) bj _ (Nat.mod_lt _ hn) (Nat.mod_lt _ hn) ((hJ.below hb).more hs) (hbx.below hb hbj) hv).mono fun e w' ⟨he, q, hq⟩ => ⟨?_, q, #[], by rw [hq, grow_empty]⟩
  rw [he, lenF_mod, lenF_mod]
  rfl
theorem lay_int : Lay Tryd.prog := by
  constructor
  all_goals first | (by_cases True <;> kernel_rfl) | (intros; kernel_rfl) | kernel_rfl
theorem oneCell_nat (n : Nat) : OneCell (natV n) := fun _ => rfl
/-- the sort of the indexes that the call owns -/
theorem sortG_any (L K : Int) (A : Option Addr) (cA : Nat) (al : List Ask) (bj B g c : Nat) (l : List Nat) (js7 : List Value) (w : World) (hl0 : l ≠ []) (hln : ∀ x ∈ l, x < al.length) (hll : l.length ≤ 1000) (hJ : Slc Ask.enc 2 w B A al) (hbx : Blk w bj 24 #[.int .i64 L, .int .i64 K, .slice A al.length cA]) (hv : VK L K al) (hbj : bj < B) (hB : B ≤ g)
    (hG : Blk w g 3 (l.map (fun x : Nat => Value.int .i64 (x : Int)) ++ js7).toArray) :
    Calls Tryd.prog 30 #[.slice (some ⟨g, 0, none⟩) l.length c, .func (.func 31) #[] #[.pointer (some ⟨bj, 0, none⟩)]] w fun e w' => e = .returned (.tuple #[]) ∧ Go.RowKit.Below B w w' ∧ Slc intEnc 1 w' w'.heap.size (some ⟨g, 0, none⟩) ((sortK (keyG al) l).map fun x : Nat => (x : Int)) := by
  have hg := hG.lt
  have hn : 0 < al.length := by
    obtain ⟨x, hx⟩ := List.exists_mem_of_ne_nil l hl0
    have := hln x hx
    omega
  have hH : Holds (encT (natV al.length)) w g 0 (tagK l) := fun j hj => by
    rw [tagK_size] at hj
    have hj' : l[j]? = some l[j] := List.getElem?_eq_getElem hj
    rw [tagK_at hj']
    refine ⟨?_, frozen_of_row w g _ _ 3 hG⟩
    have := hG.cell_ j (v := .int .i64 (l[j] : Int)) (by rw [List.getElem?_toArray, List.getElem?_append_left (by simpa using hj), List.getElem?_map, hj']; rfl)
    rw [Nat.zero_add, this]
    show _ = some (Value.int .i64 ((l[j] % al.length : Nat) : Int))
    rw [Nat.mod_eq_of_lt (hln _ (List.getElem_mem hj))]
  have C := sortStable_any lay_int (natV al.length) (oneCell_nat _) (cfG al) (swoK (key := keyG al) (ltG al)) 31 #[.pointer (some ⟨bj, 0, none⟩)] g 0 c (tagK l) w (fun _ _ => by kernel_rfl) (cmp_fall L K A cA al bj B g _ w hn hJ hbx hv hbj hB hg) hH hg (by rw [tagK_size]; omega) (fun i hi => by
    rw [tagK_size] at hi
    rw [tagK_at (List.getElem?_eq_getElem hi)])
  rw [tagK_size] at C
  refine C.mono fun e w' ⟨he, q, r, os, hw, hp, ht⟩ => ⟨he, ?_, ?_⟩
  · rw [hw]; exact sw_below hB hg
  · have hs : r.size = l.length := by rw [hp.1, tagK_size]
    have hH2 : Holds (encT (natV al.length)) w' g 0 r := by rw [hw]; exact holds_sw_c _ w g 0 (tagK l) r q os hH hg (by rw [hs, tagK_size])
    have he2 := sortedK_eq (ltG al) hp ht
    have hlt : g < w'.heap.size := by rw [hw]; exact Nat.lt_of_lt_of_le hg (size_sw_c _ _ _ _ _ _ _)
    intro i z hz
    rw [List.getElem?_map] at hz
    obtain ⟨x, hx, rfl⟩ := Option.map_eq_some_iff.1 hz
    have hxn : x < al.length := hln x ((sortK_perm (keyG al) l).subset (List.mem_of_getElem? hx))
    rw [← he2, List.getElem?_map] at hx
    obtain ⟨y, hy, rfl⟩ := Option.map_eq_some_iff.1 hx
    have hi : i < r.size := by have := (List.getElem?_eq_some_iff.1 hy).1; simpa using this
    have hri : y = r[i]! := by
      rw [getElem!_pos r i hi]
      have : r.toList[i]? = some r[i] := by simp [hi]
      rw [this] at hy
      injection hy with hy
      exact hy.symm
    refine ⟨g, 0, rfl, hlt, fun j v hv => ?_⟩
    obtain rfl : j = 0 := by
      have := (List.getElem?_eq_some_iff.1 hv).1
      simpa [intEnc] using this
    have h9 := (hH2 i hi).1
    rw [← hri] at h9
    have h8 : Value.int .i64 ((y.1 : Nat) : Int) = v := by simpa [intEnc] using hv
    rw [Nat.mul_one, Nat.add_zero, h9, ← h8]
    show some (Value.int .i64 ((y.1 % al.length : Nat) : Int)) = _
    rw [Nat.mod_eq_of_lt hxn]
/-- nothing to sort -/
theorem insI0_any (A : Option Addr) (c : Nat) (f : Value) (w : World) : Calls Tryd.prog 54 #[.slice A 0 c, .int .i64 0, .int .i64 0, f] w fun e w' => e = .returned (.tuple #[]) ∧ w = w' := by
  go_enter Tryd.func54, Tryd.ntmps54
  go_wp2
  refine wp_loop_rounds 1 ?_
  rw [rounds_succ]
  go_wp2_with fail
  go_end0
  exact ⟨rfl, rfl⟩
theorem stableI0_any (A : Option Addr) (c : Nat) (f : Value) (w : World) : Calls Tryd.prog 46 #[.slice A 0 c, .int .i64 0, f] w fun e w' => e = .returned (.tuple #[]) ∧ w = w' := by
  go_enter Tryd.func46, Tryd.ntmps46
  go_wp2
  refine wp_loop_rounds 1 ?_
  rw [rounds_succ]
  go_wp2_with fail
  refine (insI0_any A c f _).mono ?_
  rintro e w' ⟨rfl, rfl⟩
  go_wp2_with fail
  refine wp_loop_rounds 1 ?_
  rw [rounds_succ]
  go_wp2_with fail
  go_end0
  exact ⟨rfl, rfl⟩
theorem sortI0_any (A : Option Addr) (c : Nat) (f : Value) (w : World) : Calls Tryd.prog 30 #[.slice A 0 c, f] w fun e w' => e = .returned (.tuple #[]) ∧ w = w' := by
  go_enter Tryd.func30, Tryd.ntmps30
  go_wp2_with fail
  refine (stableI0_any A c f _).mono ?_
  rintro e w' ⟨rfl, rfl⟩
  go_wp2_with fail
  go_end0
  exact ⟨rfl, rfl⟩
/-- make([]T, 0, n) for elements of one cell -/
theorem run_make0 {P : Program} {t e : TypeId} {z : Value} {bytes : Nat} (ht : P.underlying t = some (.slice e)) (h : (P.info? e).map (fun i => (i.zero, i.size, i.bytes)) = some (some z, 1, bytes)) (hz : z.cells = #[z]) (hb : bytes ≤ 4096) (n : Nat) (hn : n ≤ 1000000) (w : World) :
    (Instr.makeSlice t (.int .i64 0) (.int .i64 n)).run P w = .ok (.slice (some ⟨w.heap.size, 0, none⟩) 0 n) (w.alloc (.cells (Array.replicate n z) e)) := by
  obtain ⟨i, hi, h1, h2, h3⟩ := info_parts h
  have hbn : (i.bytes : Int) * n ≤ 281474976710656 := by
    rw [h3]
    have h4 : bytes * n ≤ 4096 * 1000000 := Nat.mul_le_mul hb hn
    have h5 : ((bytes * n : Nat) : Int) = (bytes : Int) * (n : Int) := Int.natCast_mul _ _
    omega
  rw [run_make w t e i z ht hi h1 .i64 .i64 0 n (by omega) (by omega) hbn (by omega)]
  simp only [Int.toNat_natCast, h2, Nat.mul_one, hz]
  congr 3
  apply Array.ext
  · simp [size_madeCells]
  · intro j h1 h2
    simp [madeCells, Nat.mod_one]
def FallPost (l : List Ask) (w : World) (e : Ending) (w' : World) : Prop := ∃ A' c', e = .returned (.slice A' l.length c') ∧ Go.RowKit.Below w.heap.size w w' ∧ Slc intEnc 1 w' w'.heap.size A' ((fallG l).map fun x : Nat => (x : Int))
theorem own_make0 {w : World} {base n : Nat} (h : base ≤ w.heap.size) (hn : n ≤ 1000) : Own (w.alloc (.cells (Array.replicate n (Value.int .i64 0)) 3)) base 3 1 natEnc (.slice (some ⟨w.heap.size, 0, none⟩) 0 n) [] :=
  ⟨by simp, .inr ⟨w.heap.size, n, (Array.replicate n (Value.int .i64 0)), rfl, h, Blk.new w _ _, Nat.zero_le _, by unfold maxLen; omega, by simp, by simp⟩⟩
set_option maxRecDepth 100000 in
set_option maxHeartbeats 1000000 in
theorem falling_any (L K : Int) (A : Option Addr) (c : Nat) (l : List Ask) (w : World) (hS : Slc Ask.enc 2 w w.heap.size A l) (hv : VK L K l) :
    Calls Tryd.prog 18 #[.agg #[.int .i64 L, .int .i64 K, .slice A l.length c]] w (FallPost l w) := by
  have hk := Blk.new w 24 #[.int .i64 L, .int .i64 K, .slice A l.length c]
  have hB := (Go.RowKit.Below.refl w.heap.size w).alloc (Nat.le_refl _) (.cells #[.int .i64 L, .int .i64 K, .slice A l.length c] 24)
  have hl8 := hv.few
  go_enter Tryd.func18, Tryd.ntmps18
  go_upto_region 1 with fail
  generalize w.alloc (.cells #[.int .i64 L, .int .i64 K, .slice A l.length c] 24) = W at *
  have c0 := hk.cell_ 0 rfl
  have c1 := hk.cell_ 1 rfl
  have c2 := hk.cell_ 2 rfl
  have hmk : ∀ w, (Instr.makeSlice 25 (.int .i64 0) (.int .i64 l.length)).run Tryd.prog w = .ok (.slice (some ⟨w.heap.size, 0, none⟩) 0 l.length) (w.alloc (.cells (Array.replicate l.length (Value.int .i64 0)) 3)) := fun w => run_make0 (bytes := 8) Tryd.underlying25 (by kernel_rfl) rfl (by omega) _ (by omega) w
  go_upto_region 2 with fail
  have hO : Own (W.alloc (.cells (Array.replicate l.length (Value.int .i64 0)) 3)) W.heap.size 3 1 natEnc (.slice (some ⟨W.heap.size, 0, none⟩) 0 l.length) (List.range 0) := own_make0 (Nat.le_refl _) (by omega)
  have hL : Go.RowKit.Below W.heap.size W (W.alloc (.cells (Array.replicate l.length (Value.int .i64 0)) 3)) := (Go.RowKit.Below.refl _ W).alloc (Nat.le_refl _) _
  have hWz := hk.lt
  replace hk := hk.below hL hWz
  replace hB := hB.trans (hL.mono (Nat.le_of_lt hWz))
  clear c0 c1 c2 hmk
  obtain ⟨W0, rfl⟩ : ∃ X : World, X = W := ⟨_, rfl⟩
  generalize hA0 : (Value.slice (some ⟨W0.heap.size, 0, none⟩) 0 l.length) = v0 at *
  generalize W0.alloc (.cells (Array.replicate l.length (Value.int .i64 0)) 3) = W at *
  clear hA0
  have c0 := hk.cell_ 0 rfl
  have c1 := hk.cell_ 1 rfl
  have c2 := hk.cell_ 2 rfl
  go_wp2_with fail
  clear c0 c1 c2
  go_loopw [3, 12] (fun v y W => ∃ (i : Nat), y = .int .i64 i ∧ i ≤ l.length ∧ Blk W w.heap.size 24 #[.int .i64 L, .int .i64 K, .slice A l.length c] ∧ Own W W0.heap.size 3 1 natEnc v (List.range i) ∧ Go.RowKit.Below W0.heap.size W0 W ∧ Below w.heap.size w W) (fun v y _ => l.length - (intOf y).toNat)
  case atStart => exact ⟨0, rfl, Nat.zero_le _, hk, hO, hL, hB⟩
  case round =>
    clear hk hB hL hO
    obtain ⟨W, rfl⟩ : ∃ W : World, W = wr := ⟨_, rfl⟩
    obtain ⟨i, rfl, hi, hk, hO, hL, hB⟩ := hrel
    by_cases hlt : i < l.length
    · have hii : (i : Int) < (l.length : Int) := by omega
      have hLs := hL.size
      have hrl : (List.range i).length ≤ 1000000000 := by rw [List.length_range]; omega
      have c0 := hk.cell_ 0 rfl
      have c1 := hk.cell_ 1 rfl
      have c2 := hk.cell_ 2 rfl
      go_wp2_with (at_builtin; refine wpList_app _ _ rfl rfl et_ints hO rfl rfl (y := (i : Nat)) rfl rfl rfl (by omega) (by omega) ?_; intro v' W hO' hb hgt; clear c0 c1 c2; replace hk := hk.below hb (by omega); clear hO; have hO := hO'; clear hO'; replace hL := hL.trans (hb.mono (by first | exact Nat.le_refl _ | exact hL.size)); replace hB := hB.trans (hb.mono (by omega)); clear hb; have c0 := hk.cell_ 0 rfl; have c1 := hk.cell_ 1 rfl; have c2 := hk.cell_ 2 rfl)
      go_roundw
      case rel => exact ⟨i + 1, by go_num, by omega, hk, by rw [List.range_succ]; exact hO, hL, hB⟩
      case measure => simp [intOf]; omega
    · obtain rfl : i = l.length := by omega
      obtain ⟨A2, k2, rfl, hS2⟩ := hO.form fun _ => rfl
      rw [List.length_range] at hO ⊢
      have c0 := hk.cell_ 0 rfl
      have c1 := hk.cell_ 1 rfl
      have c2 := hk.cell_ 2 rfl
      by_cases hn : l.length = 0
      · have hnil : l = [] := List.length_eq_zero_iff.1 hn
        subst hnil
        clear hO hS2
        go_wp2_with fail
        refine (sortI0_any A2 k2 _ _).mono ?_
        rintro e w' ⟨rfl, rfl⟩
        go_wp2_with fail
        go_ret
        exact ⟨A2, k2, rfl, hB, Slc.nil_⟩
      · have hne : List.range l.length ≠ [] := by
          intro h
          have := congrArg List.length h
          rw [List.length_range] at this
          exact hn this
        obtain ⟨g, js7, rfl, hge, G⟩ := own_blk (g := fun x : Nat => Value.int .i64 (x : Int)) hO hne
        have C := sortG_any L K A c l w.heap.size W0.heap.size g k2 (List.range l.length) js7 W hne (fun x hx => List.mem_range.1 hx) (by rw [List.length_range]; omega) ((hS.below (hB.mono (Nat.le_refl _))).more (Nat.le_of_lt hWz)) hk hv hWz hge G
        rw [List.length_range] at C
        have C : Calls Tryd.prog 30 #[.slice (some ⟨g, 0, none⟩) l.length k2, .func (.func 31) #[] #[.pointer (some ⟨w.heap.size, 0, none⟩)]] W fun e w' => e = .returned (.tuple #[]) ∧ Go.RowKit.Below W0.heap.size W w' ∧ Slc intEnc 1 w' w'.heap.size (some ⟨g, 0, none⟩) ((fallG l).map fun x : Nat => (x : Int)) := C
        clear hO hS2 G
        go_wp2_with fail
        refine C.mono ?_
        rintro e W2 ⟨rfl, hb2, S⟩
        have hB2 := hB.trans (hb2.mono (Nat.le_of_lt hWz))
        clear C hk c0 c1
        go_wp2_with fail
        go_ret
        exact ⟨_, k2, rfl, hB2, S⟩
end Go.Proofs.YtkcfalehebacpaaDoor
namespace Go.Proofs.YtkcfalehebacpaaDoor
open Go Go.RowKit
def restF (l : List Ask) (v : Nat) (i : Nat) : List Nat := (List.range' i (l.length - i)).filter fun x => decide (lenF l x = (v : Nat))
theorem restF_zero (l : List Ask) (m : Nat) : catG l (m + 1) = restF l (m + 1) 0 ++ catG l m := by
  rw [catG, restF, List.range_eq_range', Nat.sub_zero]
theorem restF_step {l : List Ask} {v i : Nat} (h : i < l.length) : restF l v i = if lenF l i = (v : Nat) then i :: restF l v (i + 1) else restF l v (i + 1) := by
  unfold restF
  rw [show l.length - i = (l.length - (i + 1)) + 1 by omega, List.range'_succ, List.filter_cons]
  by_cases e : lenF l i = (v : Nat)
  · rw [if_pos (by simpa using e), if_pos e]
  · rw [if_neg (by simpa using e), if_neg e]
theorem restF_end (l : List Ask) (v : Nat) : restF l v l.length = [] := by unfold restF; rw [Nat.sub_self]; rfl
theorem pieces_append (l : List Ask) (a b : List Nat) : piecesG l (a ++ b) = piecesG l a ++ piecesG l b := by unfold piecesG; rw [List.flatMap_append]
def PiecesPost (l : List Ask) (w : World) (e : Ending) (w' : World) : Prop := ∃ A' c', e = .returned (.slice A' (queueG l).length c') ∧ Below w.heap.size w w' ∧ Slc intEnc 1 w' w'.heap.size A' ((queueG l).map fun x : Nat => (x : Int))
theorem slc_nat {w : World} {B : Nat} {A : Option Addr} {l : List Nat} (h : Slc natEnc 1 w B A l) : Slc intEnc 1 w B A (l.map fun x : Nat => (x : Int)) := fun i z hz => by
  rw [List.getElem?_map] at hz
  obtain ⟨x, hx, rfl⟩ := Option.map_eq_some_iff.1 hz
  obtain ⟨b, off, h1, h2, h3⟩ := h i x hx
  exact ⟨b, off, h1, h2, h3⟩
end Go.Proofs.YtkcfalehebacpaaDoor

/- The document's search for rolls, Least of the reference, and CutLeast: the walks. -/
namespace Go.Proofs.YtkcfalehebacpaaDoor
open Go Go.RowKit
theorem fill_iff {R : Int} {loads ws : List Int} {w : Int} {m : Nat} (hw : 0 ≤ w) (hws : ∀ x ∈ ws, 0 ≤ x) : Fill R loads (w :: ws) m ↔ (∃ j x, loads[j]? = some x ∧ x + w ≤ R ∧ Fill R (loads.set j (x + w)) ws m) ∨ (1 ≤ m ∧ w ≤ R ∧ Fill R (loads ++ [w]) ws (m - 1)) := by
  refine ⟨fill_step hw hws, ?_⟩
  rintro (⟨j, x, h1, _, h3⟩ | ⟨h1, _, h3⟩)
  · exact fill_here h1 h3
  · exact fill_new h1 h3
def widthF (K : Int) (l : List Ask) (i : Nat) : Int := lenF l i + K
def loadsG (K : Int) (l : List Ask) (R : List (List Int)) : List Int := R.map fun r => sizeTo K l r l.length
/-- rolls that are begun, with at most q pieces -/
structure BInv (L K : Int) (l : List Ask) (q : Nat) (R : List (List Int)) : Prop where
  len : ∀ r ∈ R, r.length = l.length
  low : ∀ r ∈ R, ∀ p ∈ r, 0 ≤ p ∧ p ≤ (q : Int)
  size : ∀ r ∈ R, sizeTo K l r l.length ≤ L + K
theorem bump_size {K : Int} {l : List Ask} {r : List Int} {i : Nat} (hr : r.length = l.length) (hi : i < l.length) : sizeTo K l (bump r i) l.length = sizeTo K l r l.length + widthF K l i := by
  have ha : l[i]? = some l[i] := List.getElem?_eq_getElem hi
  unfold bump
  rw [size_set ha hr _ l.length (Nat.le_refl _), if_pos hi, show r.getD i 0 + 1 - r.getD i 0 = 1 by omega, Int.one_mul]
  unfold widthF
  rw [lenF_at ha]
theorem bump_q {r : List Int} {i q : Nat} (h : ∀ p ∈ r, 0 ≤ p ∧ p ≤ (q : Int)) : ∀ p ∈ bump r i, 0 ≤ p ∧ p ≤ ((q + 1 : Nat) : Int) := fun p hp => by
  unfold bump at hp
  rcases List.mem_or_eq_of_mem_set hp with h1 | h1
  · have := h p h1; push_cast; omega
  · subst h1
    rw [List.getD_eq_getElem?_getD]
    cases e : r[i]? with
    | none => simp; omega
    | some v =>
      have := h v (List.mem_of_getElem? e)
      show 0 ≤ v + 1 ∧ v + 1 ≤ _
      push_cast; omega
/-- the rolls with one piece more, on roll k, which may be a new one -/
def nextG (l : List Ask) (R : List (List Int)) (k i : Nat) : List (List Int) := if k < R.length then R.set k (bump (R.getD k []) i) else R ++ [bump (List.replicate l.length 0) i]
def rowG (l : List Ask) (R : List (List Int)) (k : Nat) : List Int := if k < R.length then R.getD k [] else List.replicate l.length 0
theorem fits_row {L K : Int} {l : List Ask} {r : List Int} (hr : r.length = l.length) (h : ∀ p ∈ r, 0 ≤ p ∧ p ≤ 50) : fitsB L K l r = decide (sizeTo K l r l.length ≤ L + K) := by
  unfold fitsB
  rw [okP_iff.2 h, Bool.true_and, hr]
theorem row_ok {L K : Int} {l : List Ask} {q : Nat} {R : List (List Int)} (h : BInv L K l q R) (k : Nat) : (rowG l R k).length = l.length ∧ ∀ p ∈ rowG l R k, 0 ≤ p ∧ p ≤ (q : Int) := by
  unfold rowG
  by_cases hk : k < R.length
  · rw [if_pos hk, List.getD_eq_getElem?_getD, List.getElem?_eq_getElem hk]
    exact ⟨h.len _ (List.getElem_mem hk), h.low _ (List.getElem_mem hk)⟩
  · rw [if_neg hk]
    exact ⟨List.length_replicate, fun p hp => by rw [(List.mem_replicate.1 hp).2]; omega⟩
theorem size_row {K : Int} {l : List Ask} {R : List (List Int)} (k : Nat) : sizeTo K l (rowG l R k) l.length = (loadsG K l R).getD k 0 := by
  unfold rowG loadsG
  rw [List.getD_eq_getElem?_getD, List.getD_eq_getElem?_getD, List.getElem?_map]
  by_cases hk : k < R.length
  · rw [if_pos hk, List.getElem?_eq_getElem hk]; rfl
  · rw [if_neg hk, List.getElem?_eq_none (by omega)]
    exact size_zero _ (Nat.le_refl _)
theorem next_row (l : List Ask) (R : List (List Int)) (k i : Nat) : nextG l R k i = if k < R.length then R.set k (bump (rowG l R k) i) else R ++ [bump (rowG l R k) i] := by
  unfold nextG rowG
  by_cases hk : k < R.length
  · rw [if_pos hk, if_pos hk, if_pos hk]
  · rw [if_neg hk, if_neg hk, if_neg hk]
theorem next_loads {L K : Int} {l : List Ask} {q : Nat} {R : List (List Int)} (h : BInv L K l q R) {k i : Nat} (hk : k ≤ R.length) (hi : i < l.length) : loadsG K l (nextG l R k i) = if k < R.length then (loadsG K l R).set k ((loadsG K l R).getD k 0 + widthF K l i) else loadsG K l R ++ [widthF K l i] := by
  have h1 := bump_size (K := K) (row_ok h k).1 hi
  rw [size_row] at h1
  rw [next_row]
  by_cases hk2 : k < R.length
  · rw [if_pos hk2, if_pos hk2, ← h1]
    unfold loadsG
    rw [List.map_set]
  · rw [if_neg hk2, if_neg hk2]
    have h2 : (loadsG K l R).getD k 0 = 0 := by
      unfold loadsG
      rw [List.getD_eq_getElem?_getD, List.getElem?_eq_none (by rw [List.length_map]; omega)]; rfl
    rw [h2, Int.zero_add] at h1
    conv => lhs; unfold loadsG
    rw [List.map_append, List.map_singleton, h1]; rfl
theorem next_inv {L K : Int} {l : List Ask} {q : Nat} {R : List (List Int)} (h : BInv L K l q R) {k i : Nat} (hi : i < l.length) (hs : sizeTo K l (bump (rowG l R k) i) l.length ≤ L + K) : BInv L K l (q + 1) (nextG l R k i) := by
  obtain ⟨r1, r2⟩ := row_ok h k
  have hb := bump_q (i := i) r2
  have key : ∀ x ∈ nextG l R k i, x ∈ R ∨ x = bump (rowG l R k) i := fun x hx => by
    rw [next_row] at hx
    split at hx
    · rcases List.mem_or_eq_of_mem_set hx with h1 | h1
      · exact .inl h1
      · exact .inr h1
    · rcases List.mem_append.1 hx with h1 | h1
      · exact .inl h1
      · exact .inr (List.mem_singleton.1 h1)
  refine ⟨fun x hx => ?_, fun x hx p hp => ?_, fun x hx => ?_⟩
  · rcases key x hx with h1 | rfl
    · exact h.len x h1
    · rw [bump_len]; exact r1
  · rcases key x hx with h1 | rfl
    · have := h.low x h1 p hp; push_cast; omega
    · exact hb p hp
  · rcases key x hx with h1 | rfl
    · exact h.size x h1
    · exact hs
theorem next_len (l : List Ask) (R : List (List Int)) {k i : Nat} (hk : k ≤ R.length) : (nextG l R k i).length = max R.length (k + 1) := by
  unfold nextG
  split
  · rw [List.length_set]; omega
  · rw [List.length_append, List.length_singleton]; omega
/-- what the search at roll k finds -/
def HitG (L K : Int) (l : List Ask) (Q : List Nat) (R : List (List Int)) (most k : Nat) : Prop :=
  ∃ i rest, Q = i :: rest ∧ sizeTo K l (bump (rowG l R k) i) l.length ≤ L + K ∧ Fill (L + K) (loadsG K l (nextG l R k i)) (rest.map (widthF K l)) (most - (nextG l R k i).length)
theorem fill_hits {L K : Int} {l : List Ask} {i q : Nat} {rest : List Nat} {R : List (List Int)} {most : Nat} (h : BInv L K l q R) (hi : i < l.length) (hr : ∀ x ∈ rest, 0 ≤ widthF K l x) (hw : 0 ≤ widthF K l i) (hm : R.length ≤ most) :
    Fill (L + K) (loadsG K l R) ((i :: rest).map (widthF K l)) (most - R.length) ↔ ∃ k, k ≤ R.length ∧ k < most ∧ HitG L K l (i :: rest) R most k := by
  rw [List.map_cons, fill_iff hw (fun x hx => by obtain ⟨y, hy, rfl⟩ := List.mem_map.1 hx; exact hr y hy)]
  have hll : (loadsG K l R).length = R.length := by unfold loadsG; rw [List.length_map]
  constructor
  · rintro (⟨j, x, h1, h2, h3⟩ | ⟨h1, h2, h3⟩)
    · have hj : j < R.length := by rw [← hll]; exact (List.getElem?_eq_some_iff.1 h1).1
      have hx : (loadsG K l R).getD j 0 = x := by rw [List.getD_eq_getElem?_getD, h1]; rfl
      refine ⟨j, by omega, by omega, i, rest, rfl, ?_, ?_⟩
      · rw [bump_size (row_ok h j).1 hi, size_row, hx]; exact h2
      · rw [next_loads h (by omega) hi, if_pos hj, hx, next_len l R (by omega), show max R.length (j + 1) = R.length by omega]
        exact h3
    · refine ⟨R.length, Nat.le_refl _, by omega, i, rest, rfl, ?_, ?_⟩
      · rw [bump_size (row_ok h _).1 hi, size_row, List.getD_eq_getElem?_getD, List.getElem?_eq_none (by omega)]
        show 0 + _ ≤ _
        omega
      · rw [next_loads h (Nat.le_refl _) hi, if_neg (by omega), next_len l R (Nat.le_refl _), show max R.length (R.length + 1) = R.length + 1 by omega, show most - (R.length + 1) = most - R.length - 1 by omega]
        exact h3
  · rintro ⟨k, hk, hkm, i', rest', he, h2, h3⟩
    injection he with e1 e2
    subst e1 e2
    rw [next_loads h hk hi, next_len l R hk] at h3
    rw [bump_size (row_ok h k).1 hi, size_row] at h2
    rcases Nat.lt_or_ge k R.length with h4 | h4
    · left
      rw [if_pos h4, show max R.length (k + 1) = R.length by omega] at h3
      have hg : (loadsG K l R)[k]? = some ((loadsG K l R).getD k 0) := by
        rw [List.getD_eq_getElem?_getD, List.getElem?_eq_getElem (by omega)]; rfl
      exact ⟨k, _, hg, h2, h3⟩
    · right
      rw [if_neg (by omega), show max R.length (k + 1) = R.length + 1 by omega] at h3
      rw [List.getD_eq_getElem?_getD, List.getElem?_eq_none (by omega)] at h2
      have h5 : 0 + widthF K l i ≤ L + K := h2
      exact ⟨by omega, by omega, by rw [show most - R.length - 1 = most - (R.length + 1) by omega]; exact h3⟩
structure Hd where
  A : Option Addr
  n : Nat
  c : Nat
instance : Inhabited Hd := ⟨⟨none, 0, 0⟩⟩
def Hd.enc (h : Hd) : List Value := [.slice h.A h.n h.c]
theorem hd_one (h : Hd) : ∀ u ∈ Hd.enc h, u.oneCell' = true := fun u hu => by simp [Hd.enc] at hu; subst hu; rfl
/-- rows that can be read -/
structure RowsIn (w : World) (A : Option Addr) (hs : List Hd) (R : List (List Int)) : Prop where
  row : Slc Hd.enc 1 w w.heap.size A hs
  len : hs.length = R.length
  in_ : ∀ (i : Nat) h r, hs[i]? = some h → R[i]? = some r → h.n = r.length ∧ Slc intEnc 1 w w.heap.size h.A r
theorem RowsIn.on {w w' : World} {A : Option Addr} {hs : List Hd} {R : List (List Int)} (h : RowsIn w A hs R) (hb : Below w.heap.size w w') : RowsIn w' A hs R :=
  ⟨h.row.on hb, h.len, fun i x r h1 h2 => by
    obtain ⟨a, b⟩ := h.in_ i x r h1 h2
    exact ⟨a, b.on hb⟩⟩
theorem RowsIn.nil_ (w : World) : RowsIn w none [] [] := ⟨fun i x h => by simp at h, rfl, fun i x r h => by simp at h⟩
theorem rows_at {w : World} {A : Option Addr} {hs : List Hd} {R : List (List Int)} {k : Nat} (h : RowsIn w A hs R) (hk : k < R.length) :
    ∃ r b off A' c', R[k]? = some r ∧ A = some ⟨b, off, none⟩ ∧ b < w.heap.size ∧ w.cell? ⟨b, off + k, none⟩ = some (.slice A' r.length c') ∧ Slc intEnc 1 w w.heap.size A' r := by
  have hx : hs[k]? = some (hs[k]'(by rw [h.len]; exact hk)) := List.getElem?_eq_getElem (by rw [h.len]; exact hk)
  obtain ⟨b, off, ha, hb, h0⟩ := h.row k _ hx
  have hr : R[k]? = some R[k] := List.getElem?_eq_getElem hk
  obtain ⟨e1, e2⟩ := h.in_ k _ _ hx hr
  have h1 := h0 0 _ rfl
  rw [Nat.mul_one, Nat.add_zero, e1] at h1
  exact ⟨R[k], b, off, _, _, hr, ha, hb, h1, e2⟩
/-- rows that the call owns, each in a block of its own -/
structure RowsOwn (w : World) (base : Nat) (hs : List Hd) (R : List (List Int)) : Prop where
  len : hs.length = R.length
  in_ : ∀ (i : Nat) h r, hs[i]? = some h → R[i]? = some r → h.n = r.length ∧ ∃ g js, h.A = some ⟨g, 0, none⟩ ∧ base ≤ g ∧ Blk w g 3 (intJ r js)
  apart : ∀ (i j : Nat) h h', hs[i]? = some h → hs[j]? = some h' → h.A = h'.A → i = j
theorem RowsOwn.nil_ (w : World) (base : Nat) : RowsOwn w base [] [] := ⟨rfl, fun i b r h => by simp at h, fun i j b b' h => by simp at h⟩
section
variable {w w' : World} {base : Nat} {hs : List Hd} {R : List (List Int)}
theorem RowsOwn.keep (h : RowsOwn w base hs R) (hk : ∀ g cs, base ≤ g → (∃ (i : Nat) (x : Hd), hs[i]? = some x ∧ x.A = some ⟨g, 0, none⟩) → Blk w g 3 cs → Blk w' g 3 cs) : RowsOwn w' base hs R :=
  ⟨h.len, fun i b r h1 h2 => by
    obtain ⟨a2, g, js, a3, a4, a5⟩ := h.in_ i b r h1 h2
    exact ⟨a2, g, js, a3, a4, hk g _ a4 ⟨i, b, h1, a3⟩ a5⟩, h.apart⟩
theorem RowsOwn.below (h : RowsOwn w base hs R) (hb : Below w.heap.size w w') : RowsOwn w' base hs R := h.keep fun g r _ _ hB => hB.below hb hB.lt
theorem RowsOwn.grown {v : Value} {base' : Nat} {hs' : List Hd} (h : RowsOwn w base hs R) (hO : Own w base' 25 1 Hd.enc v hs') (hg : w.grownBy w' v.ownBlock) : RowsOwn w' base hs R := h.keep fun g r _ _ hB => hB.grownv hg (own_ne_blk hO hB (by decide))
theorem RowsOwn.at_ (h : RowsOwn w base hs R) {i : Nat} {r : List Int} (hr : R[i]? = some r) : ∃ g c js, hs[i]? = some ⟨some ⟨g, 0, none⟩, r.length, c⟩ ∧ base ≤ g ∧ Blk w g 3 (intJ r js) := by
  obtain ⟨b, hb⟩ : ∃ b, hs[i]? = some b := ⟨_, List.getElem?_eq_getElem (by rw [h.len]; exact (List.getElem?_eq_some_iff.1 hr).1)⟩
  obtain ⟨a2, g, js, a3, a4, a5⟩ := h.in_ i b r hb hr
  obtain ⟨A, n, c⟩ := b
  dsimp only at a2 a3
  subst a2 a3
  exact ⟨g, c, js, hb, a4, a5⟩
theorem RowsOwn.put (h : RowsOwn w base hs R) {i g n c : Nat} {r : List Int} (hi : hs[i]? = some ⟨some ⟨g, 0, none⟩, n, c⟩) (hr : R[i]? = some r) {r' : List Int} {js : List Value} (hl : r'.length = r.length) (hc : Chg (fun k => k = g) w w') (hG : Blk w' g 3 (intJ r' js)) : RowsOwn w' base hs (R.set i r') := by
  refine ⟨by rw [List.length_set]; exact h.len, fun j b x h1 h2 => ?_, h.apart⟩
  rw [List.getElem?_set] at h2
  by_cases e : i = j
  · subst e
    rw [if_pos rfl, if_pos (List.getElem?_eq_some_iff.1 hr).1] at h2
    injection h2 with h2
    subst h2
    rw [hi] at h1
    injection h1 with h1
    subst h1
    obtain ⟨a2, g', js', a3, a4, _⟩ := h.in_ i _ r hi hr
    injection a3 with a3
    injection a3 with a3
    subst a3
    exact ⟨by rw [hl]; exact a2, g, js, rfl, a4, hG⟩
  · rw [if_neg e] at h2
    obtain ⟨a2, g', js', a3, a4, a5⟩ := h.in_ j b x h1 h2
    refine ⟨a2, g', js', a3, a4, a5.chg1 hc fun he => ?_⟩
    subst he
    exact e (h.apart i j _ b hi h1 a3.symm)
theorem RowsOwn.lt (h : RowsOwn w base hs R) {i : Nat} {b : Hd} (hb : hs[i]? = some b) : ∃ g, b.A = some ⟨g, 0, none⟩ ∧ g < w.heap.size := by
  obtain ⟨r, hr⟩ : ∃ r, R[i]? = some r := ⟨_, List.getElem?_eq_getElem (by rw [← h.len]; exact (List.getElem?_eq_some_iff.1 hb).1)⟩
  obtain ⟨_, g, js, a3, _, a5⟩ := h.in_ i b r hb hr
  exact ⟨g, a3, a5.lt⟩
theorem RowsOwn.snoc (h : RowsOwn w base hs R) {g n c : Nat} {r : List Int} {js : List Value} (hn : n = r.length) (hg : base ≤ g) (hB : Blk w g 3 (intJ r js)) (hne : ∀ (i : Nat) b, hs[i]? = some b → b.A ≠ some ⟨g, 0, none⟩) : RowsOwn w base (hs ++ [⟨some ⟨g, 0, none⟩, n, c⟩]) (R ++ [r]) := by
  subst hn
  have hlast : ∀ {j : Nat} {b : Hd}, (hs ++ [(⟨some ⟨g, 0, none⟩, r.length, c⟩ : Hd)])[j]? = some b → j < hs.length ∧ hs[j]? = some b ∨ j = hs.length ∧ b = ⟨some ⟨g, 0, none⟩, r.length, c⟩ := fun {j b} hj => by
    rcases Nat.lt_or_ge j hs.length with h1 | h1
    · rw [List.getElem?_append_left h1] at hj
      exact .inl ⟨h1, hj⟩
    · rw [List.getElem?_append_right h1] at hj
      have h2 := (List.getElem?_eq_some_iff.1 hj).1
      simp at h2
      have h3 : j = hs.length := by omega
      subst h3
      rw [Nat.sub_self] at hj
      simp at hj
      exact .inr ⟨rfl, hj.symm⟩
  refine ⟨by rw [List.length_append, List.length_append, h.len]; rfl, fun i b x h1 h2 => ?_, fun i j b b' h1 h2 he => ?_⟩
  · rcases hlast h1 with ⟨h3, h4⟩ | ⟨h3, h4⟩
    · rw [List.getElem?_append_left (by rw [← h.len]; exact h3)] at h2
      exact h.in_ i b x h4 h2
    · subst h4 h3
      rw [List.getElem?_append_right (by rw [h.len]; exact Nat.le_refl _), h.len, Nat.sub_self] at h2
      simp at h2
      subst h2
      exact ⟨rfl, g, js, rfl, hg, hB⟩
  · rcases hlast h1 with ⟨h3, h4⟩ | ⟨h3, h4⟩ <;> rcases hlast h2 with ⟨h5, h6⟩ | ⟨h5, h6⟩
    · exact h.apart i j b b' h4 h6 he
    · subst h6
      exact absurd he (hne i b h4)
    · subst h4
      exact absurd he.symm (hne j b' h6)
    · omega
theorem RowsOwn.read {A : Option Addr} (h : RowsOwn w base hs R) (hS : Slc Hd.enc 1 w w.heap.size A hs) : RowsIn w A hs R := by
  refine ⟨hS, h.len, fun i b r h1 h2 => ?_⟩
  obtain ⟨a2, g, js, a3, _, a5⟩ := h.in_ i b r h1 h2
  exact ⟨a2, by rw [a3]; exact intJ_slc a5⟩
end
theorem refFits_q (L K : Int) (A : Option Addr) (c : Nat) (l : List Ask) (AP : Option Addr) (cP n : Nat) (ps : List Int) (w : World) (hS : Slc Ask.enc 2 w w.heap.size A l) (hP : Slc intEnc 1 w w.heap.size AP ps) (hv : VK L K l) (hpl : ps.length = l.length) (hn : ps.length = n) {v : Bool} (h : fitsB L K l ps = v) :
    Calls Tryd.prog 23 #[.agg #[.int .i64 L, .int .i64 K, .slice A l.length c], .slice AP n cP] w fun e w' => e = .returned (.bool v) ∧ Below w.heap.size w w' := by
  subst hn h; exact refKFits_any L K A c l AP cP ps w hS hP hv hpl
noncomputable def packB (L K : Int) (l : List Ask) (Q : List Nat) (i : Nat) (R : List (List Int)) (most : Nat) : Bool := @decide (Fill (L + K) (loadsG K l R) ((Q.drop i).map (widthF K l)) (most - R.length)) (Classical.propDecidable _)
theorem packB_iff {L K : Int} {l : List Ask} {Q : List Nat} {i : Nat} {R : List (List Int)} {most : Nat} : packB L K l Q i R most = true ↔ Fill (L + K) (loadsG K l R) ((Q.drop i).map (widthF K l)) (most - R.length) := by unfold packB; exact @decide_eq_true_iff _ (Classical.propDecidable _)
theorem packB_of {L K : Int} {l : List Ask} {Q : List Nat} {i : Nat} {R : List (List Int)} {most : Nat} {b : Bool} (h : Fill (L + K) (loadsG K l R) ((Q.drop i).map (widthF K l)) (most - R.length) ↔ b = true) : packB L K l Q i R most = b := by
  have h2 := packB_iff (L := L) (K := K) (l := l) (Q := Q) (i := i) (R := R) (most := most)
  cases b <;> cases h3 : packB L K l Q i R most
  · rfl
  · exact absurd (h.1 (h2.1 h3)) (by decide)
  · exact absurd (h2.2 (h.2 rfl)) (by rw [h3]; decide)
  · rfl
theorem bump_atQ {r : List Int} {i : Nat} {v : Int} (h : r[i]? = some v) : bump r i = r.set i (v + 1) := by unfold bump; rw [getD_at h]
theorem queue_cellQ {Q : List Nat} {m : Nat} {x : Int} (h : (Q.map fun x : Nat => (x : Int))[m]? = some x) : ∃ i : Nat, x = (i : Int) ∧ Q[m]? = some i := by
  rw [List.getElem?_map] at h
  obtain ⟨i, hi, rfl⟩ := Option.map_eq_some_iff.1 h
  exact ⟨i, rfl, hi⟩
theorem below_eq (X W : World) (h : X = W) : Below X.heap.size X W := by subst h; exact Below.refl _ _
theorem wide_isD (L K : Int) (A : Option Addr) (c : Nat) (l : List Ask) (AB : Option Addr) (cB n : Nat) (bs : List Bt) (w : World) (hS : Slc Bt.enc 2 w w.heap.size AB bs) (hn : bs.length = n) {v : Bool} (h : wideP l.length bs = v) :
    Calls Tryd.prog 4 #[.agg #[.int .i64 L, .int .i64 K, .slice A l.length c], .slice AB n cB] w fun e w' => e = .returned (.bool v) ∧ Below w.heap.size w w' := by
  subst h hn; exact wide_any L K A c l AB cB bs w hS
theorem pack0_iff {L K : Int} {l : List Ask} {Q : List Nat} {most : Nat} : packB L K l Q 0 [] most = true ↔ Packs (L + K) (Q.map (widthF K l)) most := by
  rw [packB_iff, List.drop_zero]
  exact fill_packs
theorem width_range (K : Int) (l : List Ask) : ∀ m : Nat, m ≤ l.length → ((List.range m).flatMap fun i => List.replicate (cntF l i) (widthF K l i)) = wdG K (l.take m)
  | 0, _ => rfl
  | m + 1, h => by
    have ha : l[m]? = some l[m] := List.getElem?_eq_getElem (by omega)
    rw [List.range_succ, List.flatMap_append, width_range K l m (by omega), wdG_snoc ha]
    congr 1
    rw [List.flatMap_cons, List.flatMap_nil, List.append_nil, cntF_at ha]
    unfold widthF
    rw [lenF_at ha]
theorem queue_width (K : Int) (l : List Ask) : ((queueG l).map (widthF K l)).Perm (wdG K l) := by
  have h := width_range K l l.length (Nat.le_refl _)
  rw [List.take_length] at h
  rw [← h]
  unfold queueG piecesG
  rw [List.map_flatMap]
  have e : (fun i => (List.replicate (cntF l i) i).map (widthF K l)) = fun i => List.replicate (cntF l i) (widthF K l i) := by
    funext i; rw [List.map_replicate]
  rw [e]
  exact (fall_perm l).flatMap_right _
theorem least_same {L K n n' E E' : Int} {l : List Ask} (h : LeastV L K l n E) (g : LeastV L K l n' E') : n = n' ∧ E = E' := by
  cases hv : validK L K l
  · obtain ⟨h1, h2⟩ := h.1 hv
    obtain ⟨g1, g2⟩ := g.1 hv
    omega
  · rcases Nat.lt_or_ge 10 (wdG K l).length with h10 | h10
    · obtain ⟨h1, h2⟩ := h.2.1 hv h10
      obtain ⟨g1, g2⟩ := g.2.1 hv h10
      omega
    · obtain ⟨h1, k, h2, h3⟩ := h.2.2 hv h10
      obtain ⟨g1, k', g2, g3⟩ := g.2.2 hv h10
      have := h3.one g3
      omega
theorem refKValidD_is (L K : Int) (A : Option Addr) (c : Nat) (l : List Ask) (w : World) (hS : Slc Ask.enc 2 w w.heap.size A l) {v : Bool} (h : validK L K l = v) :
    Calls Tryd.prog 5 #[.agg #[.int .i64 L, .int .i64 K, .slice A l.length c]] w fun e w' => e = .returned (.bool v) ∧ Below w.heap.size w w' := by
  subst h; exact refKValid_any L K A c l w hS
end Go.Proofs.YtkcfalehebacpaaDoor

/- TopBound: the plain law (no plan has fewer rolls than any prices prove). -/
namespace Go.Proofs.YtkcfalehebacpaaDoor
open Go
/-- the sum of the first n values -/
def sumN (f : Nat → Int) : Nat → Int
  | 0 => 0
  | n + 1 => sumN f n + f n
theorem sumN_front (f : Nat → Int) : ∀ n : Nat, sumN f (n + 1) = f 0 + sumN (fun j => f (j + 1)) n
  | 0 => by simp [sumN]
  | n + 1 => by
    rw [sumN, sumN_front f n, sumN]
    omega
theorem sumN_congr {f g : Nat → Int} : ∀ {n : Nat}, (∀ j, j < n → f j = g j) → sumN f n = sumN g n
  | 0, _ => rfl
  | n + 1, h => by rw [sumN, sumN, sumN_congr (fun j hj => h j (by omega)), h n (by omega)]
theorem sumN_low {f : Nat → Int} : ∀ {n : Nat}, (∀ j, j < n → 0 ≤ f j) → 0 ≤ sumN f n
  | 0, _ => Int.le_refl _
  | n + 1, h => by
    have h1 := sumN_low (f := f) (n := n) fun j hj => h j (by omega)
    have h2 := h n (by omega)
    rw [sumN]; omega
theorem topK_ge {b : List Int} {wd : Nat} {p : Int} {r k : Nat} (hk : k * wd ≤ r) : ∀ {cnt : Nat}, k ≤ cnt → b.getD (r - k * wd) 0 + (k : Int) * p ≤ topK b wd p r cnt
  | 0, h => by
    obtain rfl : k = 0 := by omega
    simp [topK]
  | cnt + 1, h => by
    rcases Nat.lt_or_ge k (cnt + 1) with h1 | h1
    · have ih := topK_ge hk (b := b) (p := p) (cnt := cnt) (by omega)
      unfold topK
      split
      · exact Int.le_trans ih (Int.le_max_left _ _)
      · exact ih
    · obtain rfl : k = cnt + 1 := by omega
      unfold topK
      rw [if_pos hk]
      exact Int.le_max_right _ _
/-- the table is worth at least what any pattern that has room is worth -/
theorem best_ge {K : Int} : ∀ (l : List Ask) (ps b : List Int) (c : Nat → Nat) (r W : Nat), ps.length = l.length → (∀ j a, l[j]? = some a → c j ≤ a.cnt.toNat ∧ 0 ≤ a.len + K) → (W : Int) = sumN (fun j => (c j : Int) * ((l.getD j default).len + K)) l.length → W ≤ r → r < b.length →
    b.getD (r - W) 0 + sumN (fun j => (c j : Int) * ps.getD j 0) l.length ≤ (bestL K l ps b).getD r 0
  | [], ps, b, c, r, W, _, _, hW, _, _ => by
    have : W = 0 := by simp [sumN] at hW; exact hW
    subst this
    simp [sumN, bestL]
  | a :: l, [], b, c, r, W, hl, _, _, _, _ => by simp at hl
  | a :: l, p :: ps, b, c, r, W, hl, hc, hW, hr, hb => by
    have hc0 := hc 0 a rfl
    have hW' : 0 ≤ sumN (fun j => (c (j + 1) : Int) * ((l.getD j default).len + K)) l.length := sumN_low fun j hj => by
      have ha : l[j]? = some l[j] := List.getElem?_eq_getElem hj
      have h := (hc (j + 1) l[j] (by simp)).2
      have e : l.getD j default = l[j] := by rw [List.getD_eq_getElem?_getD, ha]; rfl
      rw [e]
      exact Int.mul_nonneg (by omega) h
    obtain ⟨V, hV⟩ : ∃ V : Nat, (V : Int) = sumN (fun j => (c (j + 1) : Int) * ((l.getD j default).len + K)) l.length := ⟨_, Int.toNat_of_nonneg hW'⟩
    obtain ⟨wd, hwd⟩ : ∃ wd : Nat, (wd : Int) = a.len + K := ⟨_, Int.toNat_of_nonneg hc0.2⟩
    have hWV : W = c 0 * wd + V := by
      rw [List.length_cons, sumN_front] at hW
      have e : (c 0 : Int) * (((a :: l).getD 0 default).len + K) = ((c 0 * wd : Nat) : Int) := by
        rw [Int.natCast_mul, hwd]; rfl
      have e2 : sumN (fun j => (c (j + 1) : Int) * (((a :: l).getD (j + 1) default).len + K)) l.length = (V : Int) := by
        rw [hV]; exact sumN_congr fun j _ => by simp
      rw [e, e2] at hW
      omega
    have ewd : (a.len + K).toNat = wd := by omega
    have hlr : (rowK b wd p a.cnt.toNat).length = b.length := rowK_len _ _ _ _
    have ih := best_ge l ps (rowK b wd p a.cnt.toNat) (fun j => c (j + 1)) r V (by simpa using hl) (fun j x hx => hc (j + 1) x (by simpa using hx)) hV (by omega) (by omega)
    have e3 : (rowK b wd p a.cnt.toNat).getD (r - V) 0 = topK b wd p (r - V) a.cnt.toNat := by
      rw [List.getD_eq_getElem?_getD, rowK_get (by omega)]; rfl
    rw [e3] at ih
    have ht := topK_ge (b := b) (wd := wd) (p := p) (r := r - V) (k := c 0) (by omega) hc0.1
    have e4 : r - V - c 0 * wd = r - W := by omega
    rw [e4] at ht
    rw [List.length_cons, sumN_front]
    have e5 : sumN (fun j => (c (j + 1) : Int) * (p :: ps).getD (j + 1) 0) l.length = sumN (fun j => (c (j + 1) : Int) * ps.getD j 0) l.length := sumN_congr fun j _ => by simp
    have e6 : (p :: ps).getD 0 0 = p := rfl
    rw [e5, e6]
    show _ ≤ (bestL K l ps (rowK b (a.len + K).toNat p a.cnt.toNat)).getD r 0
    rw [ewd]
    omega
/-- the list with c j times the number j -/
def grp (c : Nat → Nat) (n : Nat) : List Nat := (List.range n).flatMap fun j => List.replicate (c j) j
theorem grp_succ (c : Nat → Nat) (n : Nat) : grp c (n + 1) = grp c n ++ List.replicate (c n) n := by
  unfold grp
  rw [List.range_succ, List.flatMap_append]; simp
theorem grp_count (c : Nat → Nat) (x : Nat) : ∀ n : Nat, (grp c n).count x = if x < n then c x else 0
  | 0 => by simp [grp]
  | n + 1 => by
    rw [grp_succ, List.count_append, grp_count c x n, List.count_replicate]
    by_cases h : x = n
    · subst h; simp
    · have h1 : (n == x) = false := by simp; omega
      rw [h1]
      simp only [Bool.false_eq_true, if_false, Nat.add_zero]
      by_cases h2 : x < n
      · rw [if_pos h2, if_pos (by omega)]
      · rw [if_neg h2, if_neg (by omega)]
theorem sum_replicate_ (k : Nat) (v : Int) : (List.replicate k v).sum = (k : Int) * v := by
  induction k with
  | zero => simp
  | succ k ih => rw [List.replicate_succ, List.sum_cons, ih, Int.natCast_add, Int.add_mul]; omega
theorem grp_sum (c : Nat → Nat) (f : Nat → Int) : ∀ n : Nat, ((grp c n).map f).sum = sumN (fun j => (c j : Int) * f j) n
  | 0 => rfl
  | n + 1 => by rw [grp_succ, List.map_append, List.sum_append, grp_sum c f n, List.map_replicate, sum_replicate_, sumN]
theorem perm_grp {h : List Nat} {n : Nat} (hn : ∀ x ∈ h, x < n) : h.Perm (grp (fun j => h.count j) n) := by
  rw [List.perm_iff_count]
  intro x
  rw [grp_count]
  split
  · rfl
  · rw [List.count_eq_zero]
    intro hx
    exact absurd (hn x hx) (by assumption)
theorem map_perm_lift {α β : Type} (f : α → β) : ∀ {l m : List β}, l.Perm m → ∀ {qs : List α}, m = qs.map f → ∃ rs : List α, rs.Perm qs ∧ l = rs.map f := by
  intro l m h
  induction h with
  | nil => intro qs hq; exact ⟨qs, List.Perm.refl _, hq⟩
  | cons x _ ih =>
    intro qs hq
    obtain ⟨q, qs', rfl, h1, h2⟩ := List.map_eq_cons_iff.1 hq.symm
    obtain ⟨rs, h3, h4⟩ := ih h2.symm
    exact ⟨q :: rs, h3.cons q, by rw [List.map_cons, h1, h4]⟩
  | swap x y l =>
    intro qs hq
    obtain ⟨q, qs', rfl, h1, h2⟩ := List.map_eq_cons_iff.1 hq.symm
    obtain ⟨q2, qs2, rfl, h3, h4⟩ := List.map_eq_cons_iff.1 h2
    exact ⟨q2 :: q :: qs2, List.Perm.swap _ _ _, by rw [List.map_cons, List.map_cons, h1, h3, h4]⟩
  | trans _ _ ih1 ih2 =>
    intro qs hq
    obtain ⟨rs, h1, h2⟩ := ih2 hq
    obtain ⟨ss, h3, h4⟩ := ih1 h2
    exact ⟨ss, h3.trans h1, h4⟩
theorem split_groups {α β : Type} (f : α → β) : ∀ {gs : List (List β)} {rs : List α}, gs.flatten = rs.map f → ∃ hs : List (List α), hs.flatten = rs ∧ gs = hs.map (List.map f)
  | [], rs, h => by
    have : rs = [] := by simpa using h.symm
    subst this
    exact ⟨[], rfl, rfl⟩
  | g :: gs, rs, h => by
    rw [List.flatten_cons] at h
    obtain ⟨a, b, rfl, h1, h2⟩ := List.map_eq_append_iff.1 h.symm
    obtain ⟨hs, h3, h4⟩ := split_groups f h2.symm
    exact ⟨a :: hs, by rw [List.flatten_cons, h3], by rw [List.map_cons, h1, h4]⟩
theorem sum_flat_le {d : Int} (f : Nat → Int) : ∀ {hs : List (List Nat)}, (∀ h ∈ hs, (h.map f).sum ≤ d) → (hs.flatten.map f).sum ≤ d * hs.length
  | [], _ => by simp
  | h :: hs, H => by
    have h1 := H h (by simp)
    have h2 := sum_flat_le (d := d) f (hs := hs) fun x hx => H x (by simp [hx])
    rw [List.flatten_cons, List.map_append, List.sum_append, List.length_cons, Int.natCast_add, Int.mul_add]
    omega
theorem count_flat {hs : List (List Nat)} {h : List Nat} (hh : h ∈ hs) (x : Nat) : h.count x ≤ hs.flatten.count x := by
  rw [List.count_flatten]
  induction hs with
  | nil => cases hh
  | cons a hs ih =>
    rw [List.map_cons, List.sum_cons]
    rcases List.mem_cons.1 hh with rfl | h2
    · omega
    · have := ih h2
      omega
theorem all_sum {l : List Ask} {ps : List Int} (hl : ps.length = l.length) (hc : ∀ a ∈ l, 0 ≤ a.cnt) : ∀ m : Nat, m ≤ l.length → allTo l ps m = sumN (fun j => (cntF l j : Int) * ps.getD j 0) m
  | 0, _ => rfl
  | m + 1, h => by
    have ha : l[m]? = some l[m] := List.getElem?_eq_getElem (by omega)
    have hp : ps[m]? = some ps[m] := List.getElem?_eq_getElem (by omega)
    have hz : (l.zip ps)[m]? = some (l[m], ps[m]) := by rw [List.getElem?_zip_eq_some]; exact ⟨ha, hp⟩
    have ih := all_sum hl hc m (by omega)
    unfold allTo at ih ⊢
    rw [List.take_add_one, hz, Option.toList_some, List.foldl_append, ih, sumN, cntF_at ha, getD_at hp]
    have := hc l[m] (List.getElem_mem _)
    show _ + l[m].cnt * ps[m] = _
    rw [Int.toNat_of_nonneg this]
theorem dear_group {L K : Int} {l : List Ask} {ps : List Int} (hv : VK L K l) (hl : ps.length = l.length) {h : List Nat} (hn : ∀ x ∈ h, x < l.length) (hc : ∀ x, x < l.length → h.count x ≤ cntF l x) (hs : (h.map (widthF K l)).sum ≤ L + K) : (h.map fun j => ps.getD j 0).sum ≤ dearF L K l ps := by
  have hp := perm_grp hn
  have e1 := perm_sumW (hp.map (widthF K l))
  have e2 := perm_sumW (hp.map fun j => ps.getD j 0)
  rw [grp_sum] at e1 e2
  rw [e1] at hs
  have e3 : sumN (fun j => ((h.count j : Nat) : Int) * widthF K l j) l.length = sumN (fun j => ((h.count j : Nat) : Int) * ((l.getD j default).len + K)) l.length := sumN_congr fun j hj => by
    have ha : l[j]? = some l[j] := List.getElem?_eq_getElem hj
    have e : l.getD j default = l[j] := by rw [List.getD_eq_getElem?_getD, ha]; rfl
    unfold widthF
    rw [lenF_at ha, e]
  rw [e3] at hs
  have h0 : 0 ≤ sumN (fun j => ((h.count j : Nat) : Int) * ((l.getD j default).len + K)) l.length := sumN_low fun j hj => by
    have ha : l[j]? = some l[j] := List.getElem?_eq_getElem hj
    have e : l.getD j default = l[j] := by rw [List.getD_eq_getElem?_getD, ha]; rfl
    have h1 := hv.ask l[j] (List.getElem_mem _)
    have h2 := hv.hK
    rw [e]
    exact Int.mul_nonneg (by omega) (by omega)
  have hLK : 0 ≤ L + K := by have := hv.hL; have := hv.hK; omega
  have hb := best_ge (K := K) l ps (List.replicate ((L + K).toNat + 1) 0) (fun j => h.count j) (L + K).toNat (sumN (fun j => ((h.count j : Nat) : Int) * ((l.getD j default).len + K)) l.length).toNat hl (fun j a ha => by
    have hj := (List.getElem?_eq_some_iff.1 ha).1
    have h1 := hv.ask a (List.mem_of_getElem? ha)
    have h2 := hv.hK
    have h3 := hc j hj
    rw [cntF_at ha] at h3
    exact ⟨h3, by omega⟩) (Int.toNat_of_nonneg h0) (by omega) (by simp)
  have e4 : (List.replicate ((L + K).toNat + 1) (0 : Int)).getD ((L + K).toNat - (sumN (fun j => ((h.count j : Nat) : Int) * ((l.getD j default).len + K)) l.length).toNat) 0 = 0 := by
    rw [List.getD_eq_getElem?_getD, List.getElem?_replicate]
    split <;> rfl
  rw [e4] at hb
  rw [e2]
  unfold dearF
  omega
/-- as many rolls as any prices prove are in every packing -/
theorem bound_packs {L K : Int} {l : List Ask} {ps : List Int} {n : Nat} (hE : dE L K l ps = 0) (h : Packs (L + K) (wdG K l) n) : bB L K l ps ≤ n := by
  obtain ⟨hk, hp⟩ := dE_zero hE
  have hv := validK_iff.1 hk
  obtain ⟨hp1, hl⟩ := pricedB_iff.1 hp
  obtain ⟨gs, hg1, hg2, hg3⟩ := h
  obtain ⟨rs, hr1, hr2⟩ := map_perm_lift (widthF K l) (hg2.trans (queue_width K l).symm) rfl
  obtain ⟨hs, hh1, hh2⟩ := split_groups (widthF K l) hr2
  subst hh1 hh2
  rw [List.length_map] at hg1
  have hm : ∀ h ∈ hs, ∀ x ∈ h, x < l.length := fun h hh x hx => queue_mem (hr1.mem_iff.1 (List.mem_flatten.2 ⟨h, hh, hx⟩))
  have hd : ∀ h ∈ hs, (h.map fun j => ps.getD j 0).sum ≤ dearF L K l ps := fun h hh => dear_group hv hl (hm h hh) (fun x hx => by
    have h1 := count_flat hh x
    rw [hr1.count_eq, queue_count hx] at h1
    exact h1) (hg3 _ (List.mem_map.2 ⟨h, hh, rfl⟩))
  have hsum := sum_flat_le (fun j => ps.getD j 0) hd
  have hq : (queueG l).Perm (grp (cntF l) l.length) := by
    rw [List.perm_iff_count]
    intro x
    rw [grp_count]
    split
    · exact queue_count (by assumption)
    · rw [List.count_eq_zero]
      intro hx
      exact absurd (queue_mem hx) (by assumption)
  have e1 := perm_sumW ((hr1.trans hq).map fun j => ps.getD j 0)
  rw [grp_sum, ← all_sum hl (fun a ha => (hv.ask a ha).2.1) l.length (Nat.le_refl _)] at e1
  have hA : allF l ps ≤ dearF L K l ps * n := by
    have e2 : allF l ps = allTo l ps l.length := rfl
    rw [hg1] at hsum
    omega
  have hd0 : 0 ≤ dearF L K l ps := by
    have h1 := dear_group hv hl (h := []) (fun x hx => by cases hx) (fun _ _ => Nat.zero_le _) (by have h1 := hv.hL; have h2 := hv.hK; simp; omega)
    simpa using h1
  unfold bB
  split
  · rename_i hc
    have e3 : dD L K l ps = dearF L K l ps := by unfold dD; rw [if_pos hE]
    rw [e3] at hc ⊢
    have hpos : 0 < dearF L K l ps := by have := hc.2; omega
    have h4 : (allF l ps + dearF L K l ps - 1) / dearF L K l ps < (n : Int) + 1 := Int.ediv_lt_of_lt_mul hpos (by rw [Int.add_mul, Int.mul_comm (n : Int)]; omega)
    omega
  · omega
/-- the rolls of a plan, as lists of asks -/
def rollsG (n : Nat) (pl : List Bat) : List (List Nat) := pl.flatMap fun b => List.replicate b.t.toNat (grp (fun j => (b.ps.getD j 0).toNat) n)
theorem rollsG_cons (n : Nat) (b : Bat) (pl : List Bat) : rollsG n (b :: pl) = List.replicate b.t.toNat (grp (fun j => (b.ps.getD j 0).toNat) n) ++ rollsG n pl := List.flatMap_cons
theorem count_rep (g : List Nat) (x : Nat) : ∀ k : Nat, (List.replicate k g).flatten.count x = k * g.count x
  | 0 => by simp
  | k + 1 => by rw [List.replicate_succ, List.flatten_cons, List.count_append, count_rep g x k, Nat.add_mul]; omega
theorem rolls_count {n x : Nat} (hx : x < n) : ∀ pl : List Bat, (∀ b ∈ pl, 1 ≤ b.t ∧ ∀ p ∈ b.ps, 0 ≤ p) → (((rollsG n pl).flatten.count x : Nat) : Int) = totI pl x
  | [], _ => rfl
  | b :: pl, h => by
    have ih := rolls_count hx pl fun c hc => h c (by simp [hc])
    have hb := h b (by simp)
    have h0 := getD_low hb.2 x
    rw [rollsG_cons, List.flatten_append, List.count_append, count_rep, grp_count, if_pos hx, totI_cons, Int.natCast_add, ih, Int.natCast_mul, Int.toNat_of_nonneg h0, Int.toNat_of_nonneg (by omega)]
theorem rolls_len (n : Nat) : ∀ pl : List Bat, (∀ b ∈ pl, 1 ≤ b.t) → (((rollsG n pl).length : Nat) : Int) = rollsI pl
  | [], _ => rfl
  | b :: pl, h => by
    have ih := rolls_len n pl fun c hc => h c (by simp [hc])
    have hb := h b (by simp)
    rw [rollsG_cons, List.length_append, List.length_replicate, rollsI_cons, Int.natCast_add, ih, Int.toNat_of_nonneg (by omega)]
theorem size_sum {K : Int} {l : List Ask} {ps : List Int} (hl : ps.length = l.length) (h : ∀ p ∈ ps, 0 ≤ p) : ∀ m : Nat, m ≤ l.length → sumN (fun j => (((ps.getD j 0).toNat : Nat) : Int) * widthF K l j) m = sizeTo K l ps m
  | 0, _ => rfl
  | m + 1, hm => by
    have ha : l[m]? = some l[m] := List.getElem?_eq_getElem (by omega)
    have hp : ps[m]? = some ps[m] := List.getElem?_eq_getElem (by omega)
    have h0 := h ps[m] (List.getElem_mem _)
    rw [sizeTo_snoc ha hp, sumN, size_sum hl h m (by omega), getD_at hp, Int.toNat_of_nonneg h0]
    unfold widthF
    rw [lenF_at ha]
/-- a plan that is accepted packs the pieces into its rolls -/
theorem plan_packs {L K : Int} {l : List Ask} {pl : List Bat} (h : chkE L K l pl = 0) : ∃ n : Nat, rollsI pl = n ∧ Packs (L + K) (wdG K l) n := by
  obtain ⟨hk, hs, hf, hm⟩ := chk_iff.1 h
  have hv := validK_iff.1 hk
  obtain ⟨_, hs2⟩ := shapedP_iff.1 hs
  have hf2 : ∀ b ∈ pl, fitsB L K l b.ps = true := List.all_eq_true.1 hf
  have hlow : ∀ b ∈ pl, ∀ p ∈ b.ps, 0 ≤ p := fun b hb p hp => (fits_ok (hf2 b hb) p hp).1
  have hcnt : ∀ x, x < l.length → (rollsG l.length pl).flatten.count x = cntF l x := fun x hx => by
    have h1 := rolls_count hx pl fun b hb => ⟨(hs2 b hb).1.1, hlow b hb⟩
    have ha : l[x]? = some l[x] := List.getElem?_eq_getElem hx
    have h2 : askB pl l x = true := by
      unfold madeB at hm
      exact List.all_eq_true.1 hm x (List.mem_range.2 hx)
    unfold askB at h2
    rw [ha, decide_eq_true_eq] at h2
    have h3 : totI pl x = l[x].cnt := h2
    have h4 := hv.ask l[x] (List.getElem_mem _)
    rw [cntF_at ha]
    omega
  have hmem : ∀ h ∈ rollsG l.length pl, ∀ x ∈ h, x < l.length := fun h hh x hx => by
    unfold rollsG at hh
    obtain ⟨b, _, hb⟩ := List.mem_flatMap.1 hh
    have e := (List.mem_replicate.1 hb).2
    subst e
    unfold grp at hx
    obtain ⟨j, hj, hx2⟩ := List.mem_flatMap.1 hx
    have e := (List.mem_replicate.1 hx2).2
    subst e
    exact List.mem_range.1 hj
  have hperm : (rollsG l.length pl).flatten.Perm (queueG l) := by
    rw [List.perm_iff_count]
    intro x
    by_cases hx : x < l.length
    · rw [hcnt x hx, queue_count hx]
    · rw [List.count_eq_zero.2 fun hx2 => by
        obtain ⟨g, hg, hxg⟩ := List.mem_flatten.1 hx2
        exact hx (hmem g hg x hxg), List.count_eq_zero.2 fun hx2 => hx (queue_mem hx2)]
  refine ⟨(rollsG l.length pl).length, (rolls_len l.length pl fun b hb => (hs2 b hb).1.1).symm, (rollsG l.length pl).map (List.map (widthF K l)), List.length_map _, ?_, ?_⟩
  · rw [← List.map_flatten]
    exact (hperm.map _).trans (queue_width K l)
  · intro g hg
    obtain ⟨h, hh, rfl⟩ := List.mem_map.1 hg
    unfold rollsG at hh
    obtain ⟨b, hb1, hb⟩ := List.mem_flatMap.1 hh
    have e := (List.mem_replicate.1 hb).2
    subst e
    rw [grp_sum, size_sum (hs2 b hb1).2 (hlow b hb1) l.length (Nat.le_refl _)]
    have h5 := hf2 b hb1
    unfold fitsB at h5
    rw [Bool.and_eq_true, decide_eq_true_eq, (hs2 b hb1).2] at h5
    exact h5.2
theorem packs_sum {R : Int} {ws : List Int} {n : Nat} (h : Packs R ws n) : ws.sum ≤ R * n := by
  obtain ⟨gs, h1, h2, h3⟩ := h
  rw [← perm_sumW h2, ← h1]
  clear h1 h2
  induction gs with
  | nil => simp
  | cons g gs ih =>
    have h4 := h3 g (by simp)
    have h5 := ih fun x hx => h3 x (by simp [hx])
    rw [List.flatten_cons, List.sum_append, List.length_cons, Int.natCast_add, Int.mul_add]
    omega
theorem thin_sum {K : Int} : ∀ {l : List Ask}, (∀ a ∈ l, 0 ≤ a.cnt) → ((wdG K l).map (· - K)).sum = lenI l
  | [], _ => rfl
  | a :: l, h => by
    have ih := thin_sum (K := K) (l := l) fun x hx => h x (by simp [hx])
    have h1 := h a (by simp)
    unfold wdG lenI at ih ⊢
    rw [List.flatMap_cons, List.map_append, List.sum_append, ih, List.map_replicate, sum_replicate_, List.map_cons, List.sum_cons, Int.toNat_of_nonneg h1]
    congr 2
    omega
theorem waste_low {L K : Int} {l : List Ask} {n : Nat} (hv : VK L K l) (h : Packs (L + K) (wdG K l) n) : 0 ≤ (n : Int) * L - lenI l := by
  have h1 := h.thin hv.hK.1 (by have := hv.hL; omega)
  have h2 := packs_sum h1
  rw [thin_sum fun a ha => (hv.ask a ha).2.1] at h2
  have e : (L + K - K) * (n : Int) = (n : Int) * L := by rw [Int.mul_comm]; congr 1; omega
  omega
/-- what TopBound asks of a plan -/
theorem plan_bound {L K : Int} {l : List Ask} {ps : List Int} {pl : List Bat} (hE : dE L K l ps = 0) (h : chkE L K l pl = 0) : bB L K l ps ≤ rollsI pl ∧ 0 ≤ rollsI pl * L - lenI l := by
  obtain ⟨n, h1, h2⟩ := plan_packs h
  have hv := validK_iff.1 (dE_zero hE).1
  rw [h1]
  exact ⟨bound_packs hE h2, waste_low hv h2⟩
theorem least_between {L K : Int} {l : List Ask} {ps : List Int} {pl : List Bat} {n : Nat} (hE : dE L K l ps = 0) (h : chkE L K l pl = 0) (hn : LeastPk (L + K) (wdG K l) n) : bB L K l ps ≤ n ∧ (n : Int) ≤ rollsI pl := by
  obtain ⟨m, h1, h2⟩ := plan_packs h
  have h3 := hn.2 m h2
  rw [h1]
  exact ⟨bound_packs hE hn.1, by omega⟩
/-- what a plan that is accepted tells, with bounds for the machine -/
theorem roll_facts {L K : Int} {l : List Ask} {ps : List Int} {pl : List Bat} (hE : dE L K l ps = 0) (h : chkE L K l pl = 0) (hl : pl.length ≤ 100000) :
    ∃ r p ln : Int, rlE L K l pl = r ∧ wsE L K l pl = p - ln ∧ lenI l = ln ∧ r * L = p ∧ bB L K l ps ≤ r ∧ 0 ≤ p - ln ∧ (0 ≤ r ∧ r ≤ 100000000) ∧ (0 ≤ p ∧ p ≤ 100000000000) ∧ 0 ≤ ln ∧ rollsI pl = r := by
  obtain ⟨h1, h2⟩ := plan_bound hE h
  obtain ⟨hk, hs, _, _⟩ := chk_iff.1 h
  have hv := validK_iff.1 hk
  have h3 := rollsI_low pl fun b hb => ((shapedP_iff.1 hs).2 b hb).1
  have h4 := hv.hL
  have h5 : 0 ≤ rollsI pl * L := Int.mul_nonneg h3.1 (by omega)
  have h6 : rollsI pl * L ≤ rollsI pl * 1000 := Int.mul_le_mul_of_nonneg_left h4.2 h3.1
  have h7 : 0 ≤ lenI l := (lenI_low hv l fun _ h => h).1
  refine ⟨rollsI pl, rollsI pl * L, lenI l, by unfold rlE; rw [if_pos h], by unfold wsE; rw [if_pos h], rfl, rfl, h1, h2, ⟨h3.1, by omega⟩, ⟨h5, by omega⟩, h7, rfl⟩
theorem bound_low {L K : Int} {l : List Ask} {ps : List Int} (hv : validK L K l = true) (h : dE L K l ps ≠ 0) : dE L K l ps = 2 := by
  unfold dE at h ⊢
  rw [if_pos hv] at h ⊢
  split at h
  · exact absurd rfl h
  · rw [if_neg (by assumption)]
end Go.Proofs.YtkcfalehebacpaaDoor
