/- CutMore: the plain law. A longer roll, a lesser kerf, fewer pieces. -/
import Derived.Test.YtecaaimaeaocbaaDoorKLeast
import Derived.Test.YtecaaimaeaocbaaDoorKFew
namespace Go.Proofs.YtecaaimaeaocbaaDoor
open Go Go.RowKit
theorem few_total {L K : Int} : ∀ {l : List Ask}, (∀ a ∈ l, 0 ≤ a.cnt) → ((wdG K l).length : Int) = cntT l
  | [], _ => rfl
  | a :: l, h => by
    have ih := few_total (L := L) (K := K) (l := l) fun x hx => h x (List.mem_cons_of_mem _ hx)
    have h0 := h a (List.mem_cons_self ..)
    unfold wdG cntT at ih ⊢
    rw [List.flatMap_cons, List.length_append, List.length_replicate, List.map_cons, List.sum_cons]
    push_cast
    rw [ih, Int.max_eq_right h0]
    omega
theorem few_len {L K most : Int} {l : List Ask} (hv : VK L K l) (h : fewB most l = true) : ((wdG K l).length : Int) ≤ most := by
  rw [few_total (L := L) fun a ha => (hv.ask a ha).2.1]
  unfold fewB at h
  rw [Bool.and_eq_true, decide_eq_true_eq] at h
  exact h.2
theorem few_of {L K most : Int} {l : List Ask} (hv : VK L K l) (h : ((wdG K l).length : Int) ≤ most) : fewB most l = true := by
  have ht := few_total (L := L) (K := K) (l := l) fun a ha => (hv.ask a ha).2.1
  have hge : ∀ (m : List Ask), (∀ x ∈ m, 0 ≤ x.cnt) → ∀ x ∈ m, x.cnt ≤ cntT m ∧ 0 ≤ cntT m := by
    intro m
    induction m with
    | nil => intro _ x hx; cases hx
    | cons y m ih =>
      intro hm x hx
      have h1 := hm y (List.mem_cons_self ..)
      have e : cntT (y :: m) = y.cnt + cntT m := by unfold cntT; rw [List.map_cons, List.sum_cons, Int.max_eq_right h1]
      have h3 : 0 ≤ cntT m := by
        cases m with
        | nil => exact Int.le_refl _
        | cons z m => exact (ih (fun x hx => hm x (List.mem_cons_of_mem _ hx)) z (List.mem_cons_self ..)).2
      rcases List.mem_cons.1 hx with rfl | hx
      · omega
      · have := ih (fun x hx => hm x (List.mem_cons_of_mem _ hx)) x hx
        omega
  unfold fewB
  rw [Bool.and_eq_true, decide_eq_true_eq, List.all_eq_true]
  refine ⟨fun a ha => ?_, by omega⟩
  rw [decide_eq_true_eq]
  have := (hge l (fun a ha => (hv.ask a ha).2.1) a ha).1
  omega
theorem VK.long {L K L1 : Int} {l : List Ask} (h : VK L K l) (h1 : L ≤ L1) (h2 : L1 ≤ 1000) : VK L1 K l :=
  ⟨⟨by have := h.hL; omega, h2⟩, h.hK, h.few, fun a ha => by have := h.ask a ha; omega⟩
theorem VK.thin {L K K1 : Int} {l : List Ask} (h : VK L K l) (h1 : 0 ≤ K1) (h2 : K1 ≤ K) : VK L K1 l :=
  ⟨h.hL, ⟨h1, by have := h.hK; omega⟩, h.few, h.ask⟩
theorem VK.less {L K : Int} {l : List Ask} (h : VK L K l) {i : Nat} {a : Ask} (ha : l[i]? = some a) {k : Int} (h1 : 0 ≤ k) (h2 : k ≤ a.cnt) : VK L K (l.set i ⟨a.len, k⟩) :=
  ⟨h.hL, h.hK, by rw [List.length_set]; exact h.few, fun x hx => by
    rcases List.mem_or_eq_of_mem_set hx with h3 | h3
    · exact h.ask x h3
    · subst h3
      have := h.ask a (List.mem_of_getElem? ha)
      dsimp only
      omega⟩
theorem wdG_thin (K K1 : Int) (l : List Ask) : wdG K1 l = (wdG K l).map (· - (K - K1)) := by
  unfold wdG
  rw [List.map_flatMap]
  congr 1
  funext a
  rw [List.map_replicate, show a.len + K - (K - K1) = a.len + K1 by omega]
theorem wdG_less {L K : Int} {l : List Ask} (hv : VK L K l) {i : Nat} {a : Ask} (ha : l[i]? = some a) {k : Int} (h1 : 0 ≤ k) (h2 : k ≤ a.cnt) : ∃ xs : List Int, (∀ x ∈ xs, 0 ≤ x) ∧ (xs ++ wdG K (l.set i ⟨a.len, k⟩)).Perm (wdG K l) := by
  obtain ⟨p1, p2⟩ := List.getElem?_eq_some_iff.1 ha
  have e1 : l = l.take i ++ a :: l.drop (i + 1) := by rw [← p2, ← List.drop_eq_getElem_cons p1, List.take_append_drop]
  have e2 : l.set i ⟨a.len, k⟩ = l.take i ++ ⟨a.len, k⟩ :: l.drop (i + 1) := by rw [List.set_eq_take_append_cons_drop, if_pos p1]
  have hak := hv.ask a (List.mem_of_getElem? ha)
  have hK := hv.hK
  refine ⟨List.replicate (a.cnt.toNat - k.toNat) (a.len + K), fun x hx => by rw [(List.mem_replicate.1 hx).2]; omega, ?_⟩
  rw [e2]
  conv => rhs; rw [e1]
  unfold wdG
  rw [List.flatMap_append, List.flatMap_append, List.flatMap_cons, List.flatMap_cons]
  dsimp only
  have e3 : List.replicate a.cnt.toNat (a.len + K) = List.replicate (a.cnt.toNat - k.toNat) (a.len + K) ++ List.replicate k.toNat (a.len + K) := by
    rw [List.replicate_append_replicate]; congr 1; omega
  rw [e3, List.append_assoc]
  rw [← List.append_assoc]
  refine (List.perm_append_comm.append_right _).trans ?_
  rw [List.append_assoc]
theorem more_long {L K L1 : Int} {l : List Ask} {n a : Nat} (h : LeastPk (L + K) (wdG K l) n) (g : LeastPk (L1 + K) (wdG K l) a) (hL : L ≤ L1) : a ≤ n := g.2 n (h.1.wide (by omega))
theorem more_thin {L K K1 : Int} {l : List Ask} {n a : Nat} (h : LeastPk (L + K) (wdG K l) n) (g : LeastPk (L + K1) (wdG K1 l) a) (h1 : K1 ≤ K) (h2 : 0 ≤ L + K1) : a ≤ n := by
  have h3 := h.1.thin (d := K - K1) (by omega) (by omega)
  rw [← wdG_thin, show L + K - (K - K1) = L + K1 by omega] at h3
  exact g.2 n h3
theorem more_less {L K : Int} {l : List Ask} {n d : Nat} (hv : VK L K l) {i : Nat} {a : Ask} (ha : l[i]? = some a) {k : Int} (h1 : 0 ≤ k) (h2 : k ≤ a.cnt) (h : LeastPk (L + K) (wdG K l) n) (g : LeastPk (L + K) (wdG K (l.set i ⟨a.len, k⟩)) d) : d ≤ n := by
  obtain ⟨xs, x1, x2⟩ := wdG_less hv ha h1 h2
  exact g.2 n (Packs.drop x1 (h.1.perm x2.symm))
theorem less_len {L K : Int} {l : List Ask} (hv : VK L K l) {i : Nat} {a : Ask} (ha : l[i]? = some a) {k : Int} (h1 : 0 ≤ k) (h2 : k ≤ a.cnt) : (wdG K (l.set i ⟨a.len, k⟩)).length ≤ (wdG K l).length := by
  obtain ⟨xs, _, x2⟩ := wdG_less hv ha h1 h2
  have := x2.length_eq
  rw [List.length_append] at this
  omega
/-- what Least returns where all is right -/
theorem least_ok {L K n E : Int} {l : List Ask} (h : LeastV L K l n E) (hv : VK L K l) (h10 : (wdG K l).length ≤ 10) : E = 0 ∧ ∃ k : Nat, n = k ∧ LeastPk (L + K) (wdG K l) k := h.2.2 (validK_iff.2 hv) h10
end Go.Proofs.YtecaaimaeaocbaaDoor
