/- Canonical plans: the plain law. A plan's batches put together do not hang on their order. -/
import Derived.Test.YtecaaimaeaocbaaDoorKCheckP
namespace Go.Proofs.YtecaaimaeaocbaaDoor
open Go Go.RowKit
/-- slices.Compare -/
def cmpL : List Int → List Int → Int
  | [], [] => 0
  | [], _ :: _ => -1
  | _ :: _, [] => 1
  | x :: a, y :: b => if x < y then -1 else if y < x then 1 else cmpL a b
theorem cmpL_self : ∀ a : List Int, cmpL a a = 0
  | [] => rfl
  | x :: a => by rw [cmpL, if_neg (by omega), if_neg (by omega)]; exact cmpL_self a
theorem cmpL_zero : ∀ {a b : List Int}, cmpL a b = 0 → a = b
  | [], [], _ => rfl
  | [], _ :: _, h => by simp [cmpL] at h
  | _ :: _, [], h => by simp [cmpL] at h
  | x :: a, y :: b, h => by
    rw [cmpL] at h
    by_cases h1 : x < y
    · rw [if_pos h1] at h; omega
    · rw [if_neg h1] at h
      by_cases h2 : y < x
      · rw [if_pos h2] at h; omega
      · rw [if_neg h2] at h
        rw [cmpL_zero h, show x = y by omega]
theorem cmpL_swap : ∀ a b : List Int, cmpL b a = - cmpL a b
  | [], [] => rfl
  | [], _ :: _ => rfl
  | _ :: _, [] => rfl
  | x :: a, y :: b => by
    rw [cmpL, cmpL]
    by_cases h1 : x < y
    · rw [if_neg (by omega), if_pos h1, if_pos h1]; rfl
    · by_cases h2 : y < x
      · rw [if_pos h2, if_neg h1, if_pos h2]
      · rw [if_neg h2, if_neg h1, if_neg h1, if_neg h2]; exact cmpL_swap a b
theorem cmpL_trans : ∀ {a b c : List Int}, 0 < cmpL a b → 0 < cmpL b c → 0 < cmpL a c
  | [], [], _, h, _ => by simp [cmpL] at h
  | [], _ :: _, _, h, _ => by simp [cmpL] at h
  | _ :: _, [], [], _, h => by simp [cmpL] at h
  | _ :: _, [], _ :: _, _, h => by simp [cmpL] at h
  | _ :: _, _ :: _, [], _, _ => by simp [cmpL]
  | x :: a, y :: b, z :: c, h, k => by
    rw [cmpL] at h k ⊢
    by_cases h1 : x < y
    · rw [if_pos h1] at h; omega
    by_cases k1 : y < z
    · rw [if_pos k1] at k; omega
    rw [if_neg h1] at h
    rw [if_neg k1] at k
    rw [if_neg (by omega)]
    by_cases h2 : y < x
    · rw [if_pos (by omega)]; omega
    · rw [if_neg h2] at h
      by_cases k2 : z < y
      · rw [if_pos (by omega)]; omega
      · rw [if_neg k2] at k
        rw [if_neg (by omega)]
        exact cmpL_trans h k
/-- put one batch into a falling list -/
def insB : List Bat → Bat → List Bat
  | [], b => [b]
  | x :: out, b => if 0 < cmpL x.ps b.ps then x :: insB out b else if cmpL x.ps b.ps = 0 then ⟨x.t + b.t, x.ps⟩ :: out else b :: x :: out
theorem insB_gt {x b : Bat} {out : List Bat} (h : 0 < cmpL x.ps b.ps) : insB (x :: out) b = x :: insB out b := by rw [insB, if_pos h]
theorem insB_eq {x b : Bat} {out : List Bat} (h : x.ps = b.ps) : insB (x :: out) b = ⟨x.t + b.t, x.ps⟩ :: out := by
  rw [insB, if_neg (by rw [h, cmpL_self]; omega), if_pos (by rw [h, cmpL_self])]
theorem insB_lt {x b : Bat} {out : List Bat} (h : 0 < cmpL b.ps x.ps) : insB (x :: out) b = b :: x :: out := by
  have := cmpL_swap b.ps x.ps
  rw [insB, if_neg (by omega), if_neg (by omega)]
theorem cmpL_cases (a b : List Int) : 0 < cmpL a b ∨ a = b ∨ 0 < cmpL b a := by
  have := cmpL_swap a b
  rcases Int.lt_trichotomy (cmpL a b) 0 with h | h | h
  · exact .inr (.inr (by omega))
  · exact .inr (.inl (cmpL_zero h))
  · exact .inl h
theorem cmpL_asymm {a b : List Int} (h : 0 < cmpL a b) (k : 0 < cmpL b a) : False := by
  have := cmpL_swap a b; omega
theorem cmpL_irrefl {a : List Int} (h : 0 < cmpL a a) : False := by rw [cmpL_self] at h; omega
theorem insB_comm (a b : Bat) : ∀ out : List Bat, insB (insB out a) b = insB (insB out b) a
  | [] => by
    show insB [a] b = insB [b] a
    rcases cmpL_cases a.ps b.ps with h | h | h
    · rw [insB_gt h, insB_lt h]; rfl
    · rw [insB_eq h, insB_eq h.symm, h, Int.add_comm]
    · rw [insB_lt h, insB_gt h]; rfl
  | x :: out => by
    rcases cmpL_cases x.ps a.ps with h | h | h
    · rcases cmpL_cases x.ps b.ps with k | k | k
      · rw [insB_gt h, insB_gt k, insB_gt k, insB_gt h, insB_comm]
      · rw [insB_gt h, insB_eq k, insB_eq k, insB_gt (x := ⟨x.t + b.t, x.ps⟩) h]
      · rw [insB_gt h, insB_lt k, insB_lt k, insB_gt (cmpL_trans k h), insB_gt h]
    · rcases cmpL_cases x.ps b.ps with k | k | k
      · rw [insB_eq h, insB_gt (x := ⟨x.t + a.t, x.ps⟩) k, insB_gt k, insB_eq h]
      · rw [insB_eq h, insB_eq k, insB_eq (x := ⟨x.t + a.t, x.ps⟩) k, insB_eq (x := ⟨x.t + b.t, x.ps⟩) h, Int.add_right_comm]
      · rw [insB_eq h, insB_lt k, insB_lt (x := ⟨x.t + a.t, x.ps⟩) k, insB_gt (x := b) (b := a) (by rw [← h]; exact k), insB_eq h]
    · rcases cmpL_cases x.ps b.ps with k | k | k
      · rw [insB_lt h, insB_gt (cmpL_trans h k), insB_gt k, insB_lt h]
      · rw [insB_lt h, insB_gt (x := a) (b := b) (by rw [← k]; exact h), insB_eq k, insB_lt (x := ⟨x.t + b.t, x.ps⟩) h]
      · rw [insB_lt h, insB_lt k]
        rcases cmpL_cases a.ps b.ps with m | m | m
        · rw [insB_gt m, insB_lt k, insB_lt m]
        · rw [insB_eq m, insB_eq m.symm, m, Int.add_comm]
        · rw [insB_lt m, insB_gt m, insB_lt h]
def emptyB (ps : List Int) : Bool := ps.all fun p => decide (p = 0)
def foldB (pl : List Bat) : List Bat := (pl.filter fun b => !emptyB b.ps).foldl insB []
theorem foldl_perm {α β : Type} {f : β → α → β} (hf : ∀ b x y, f (f b x) y = f (f b y) x) {l m : List α} (h : l.Perm m) : ∀ b, l.foldl f b = m.foldl f b := by
  induction h with
  | nil => exact fun _ => rfl
  | cons x _ ih => exact fun b => ih (f b x)
  | swap x y l => exact fun b => by rw [List.foldl_cons, List.foldl_cons, List.foldl_cons, List.foldl_cons, hf]
  | trans _ _ h1 h2 => exact fun b => (h1 b).trans (h2 b)
theorem foldB_perm {l m : List Bat} (h : l.Perm m) : foldB l = foldB m := foldl_perm (fun o a b => insB_comm a b o) (h.filter _) []
/-- append, or add to the last one -/
def appB (out : List Bat) (b : Bat) : List Bat :=
  match out.getLast? with
  | some x => if x.ps = b.ps then out.dropLast ++ [⟨x.t + b.t, x.ps⟩] else out ++ [b]
  | none => out ++ [b]
def Fall (out : List Bat) : Prop := out.Pairwise fun x y => 0 < cmpL x.ps y.ps
theorem insB_last : ∀ {out : List Bat} {b : Bat}, Fall out → (∀ x ∈ out, 0 ≤ cmpL x.ps b.ps) → insB out b = appB out b
  | [], b, _, _ => rfl
  | [x], b, _, h => by
    have h1 := h x (List.mem_singleton.2 rfl)
    by_cases h2 : x.ps = b.ps
    · rw [insB_eq h2]
      show _ = if x.ps = b.ps then _ else _
      rw [if_pos h2]; rfl
    · rw [insB_gt (by
        rcases cmpL_cases x.ps b.ps with h3 | h3 | h3
        · exact h3
        · exact absurd h3 h2
        · have := cmpL_swap x.ps b.ps; omega)]
      show _ = if x.ps = b.ps then _ else _
      rw [if_neg h2]; rfl
  | x :: y :: out, b, hF, h => by
    have hF2 := (List.pairwise_cons.1 hF)
    have hy := h y (by simp)
    have hxy := hF2.1 y (by simp)
    have hx : 0 < cmpL x.ps b.ps := by
      rcases cmpL_cases y.ps b.ps with h3 | h3 | h3
      · exact cmpL_trans hxy h3
      · rw [← h3]; exact hxy
      · have := cmpL_swap y.ps b.ps; omega
    have ih := insB_last (out := y :: out) (b := b) hF2.2 fun z hz => h z (List.mem_cons_of_mem _ hz)
    rw [insB_gt hx, ih]
    unfold appB
    rw [List.getLast?_cons_cons]
    cases (y :: out).getLast? with
    | none => rfl
    | some z =>
      show x :: (if z.ps = b.ps then _ else _) = if z.ps = b.ps then _ else _
      by_cases h4 : z.ps = b.ps
      · rw [if_pos h4, if_pos h4]; rfl
      · rw [if_neg h4, if_neg h4]; rfl
theorem insB_keys {k : List Int} : ∀ {out : List Bat} {b : Bat}, (∃ x ∈ insB out b, x.ps = k) → b.ps = k ∨ ∃ x ∈ out, x.ps = k
  | [], b, ⟨x, hx, e⟩ => by
    rw [insB, List.mem_singleton] at hx
    subst hx; exact .inl e
  | y :: out, b, ⟨x, hx, e⟩ => by
    rcases cmpL_cases y.ps b.ps with h | h | h
    · rw [insB_gt h] at hx
      rcases List.mem_cons.1 hx with rfl | hx
      · exact .inr ⟨_, List.mem_cons_self .., e⟩
      · rcases insB_keys ⟨x, hx, e⟩ with h | ⟨z, hz, ez⟩
        · exact .inl h
        · exact .inr ⟨z, List.mem_cons_of_mem _ hz, ez⟩
    · rw [insB_eq h] at hx
      rcases List.mem_cons.1 hx with rfl | hx
      · exact .inr ⟨y, List.mem_cons_self .., e⟩
      · exact .inr ⟨x, List.mem_cons_of_mem _ hx, e⟩
    · rw [insB_lt h] at hx
      rcases List.mem_cons.1 hx with rfl | hx
      · exact .inl e
      · exact .inr ⟨x, hx, e⟩
theorem insB_fall : ∀ {out : List Bat} {b : Bat}, Fall out → Fall (insB out b)
  | [], b, _ => by rw [insB]; exact List.pairwise_singleton ..
  | y :: out, b, hF => by
    obtain ⟨h1, h2⟩ := List.pairwise_cons.1 hF
    rcases cmpL_cases y.ps b.ps with h | h | h
    · rw [insB_gt h]
      refine List.pairwise_cons.2 ⟨fun x hx => ?_, insB_fall h2⟩
      rcases insB_keys ⟨x, hx, rfl⟩ with e | ⟨z, hz, ez⟩
      · rw [← e]; exact h
      · rw [← ez]; exact h1 z hz
    · rw [insB_eq h]; exact List.pairwise_cons.2 ⟨h1, h2⟩
    · rw [insB_lt h]
      refine List.pairwise_cons.2 ⟨fun x hx => ?_, hF⟩
      rcases List.mem_cons.1 hx with rfl | hx
      · exact h
      · exact cmpL_trans h (h1 x hx)
theorem foldl_fall {out : List Bat} (hF : Fall out) : ∀ l : List Bat, Fall (l.foldl insB out)
  | [] => hF
  | b :: l => foldl_fall (insB_fall hF) l
theorem foldl_keys {k : List Int} : ∀ {l out : List Bat}, (∃ x ∈ l.foldl insB out, x.ps = k) → (∃ x ∈ l, x.ps = k) ∨ ∃ x ∈ out, x.ps = k
  | [], _, h => .inr h
  | b :: l, out, h => by
    rcases foldl_keys (l := l) (out := insB out b) h with ⟨x, hx, e⟩ | h
    · exact .inl ⟨x, List.mem_cons_of_mem _ hx, e⟩
    · rcases insB_keys h with e | h
      · exact .inl ⟨b, List.mem_cons_self .., e⟩
      · exact .inr h
/-- the fold over the first i batches of a falling plan, step by step -/
theorem foldB_snoc {s : List Bat} (hs : s.Pairwise fun x y => 0 ≤ cmpL x.ps y.ps) {i : Nat} {b : Bat} (h : s[i]? = some b) :
    foldB (s.take (i + 1)) = if emptyB b.ps then foldB (s.take i) else appB (foldB (s.take i)) b := by
  unfold foldB
  rw [List.take_add_one, h, Option.toList_some, List.filter_append, List.foldl_append]
  cases e : emptyB b.ps with
  | true => simp [List.filter, e]
  | false =>
    rw [show [b].filter (fun b => !emptyB b.ps) = [b] by simp [List.filter, e]]
    show insB _ b = _
    rw [if_neg (by simp)]
    refine insB_last (foldl_fall List.Pairwise.nil _) fun x hx => ?_
    rcases foldl_keys ⟨x, hx, rfl⟩ with ⟨z, hz, ez⟩ | ⟨z, hz, _⟩
    · rw [← ez]
      obtain ⟨q, hq⟩ := List.getElem?_of_mem (List.mem_filter.1 hz).1
      have hqi : q < i := by
        have := (List.getElem?_eq_some_iff.1 hq).1
        simp at this; omega
      rw [List.getElem?_take, if_pos hqi] at hq
      obtain ⟨g1, g2⟩ := List.getElem?_eq_some_iff.1 hq
      obtain ⟨g3, g4⟩ := List.getElem?_eq_some_iff.1 h
      have := List.pairwise_iff_getElem.1 hs q i g1 g3 hqi
      rw [g2, g4] at this; exact this
    · cases hz
theorem foldB_next {pl : List Bat} {i : Nat} {b : Bat} (h : pl[i]? = some b) : foldB (pl.take (i + 1)) = if emptyB b.ps then foldB (pl.take i) else insB (foldB (pl.take i)) b := by
  unfold foldB
  rw [List.take_add_one, h, Option.toList_some, List.filter_append, List.foldl_append]
  cases e : emptyB b.ps with
  | true => simp [List.filter, e]
  | false => simp [List.filter, e]
end Go.Proofs.YtecaaimaeaocbaaDoor
