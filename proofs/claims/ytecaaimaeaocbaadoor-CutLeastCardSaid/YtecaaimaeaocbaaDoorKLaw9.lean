/- The document's search for rolls, Least of the reference, and CutLeast: the walks. -/
import Derived.Test.YtecaaimaeaocbaaDoorKLeast
import Derived.Test.YtecaaimaeaocbaaDoorKGreedyP
import Derived.Test.YtecaaimaeaocbaaDoorKOut
import Derived.Test.YtecaaimaeaocbaaDoorKCheck
import Derived.Test.YtecaaimaeaocbaaDoorKSortG
import Derived.Test.YtecaaimaeaocbaaDoorKMoreP
import Derived.Deep.DeepCutAuto
namespace Go.Proofs.YtecaaimaeaocbaaDoor
open Go Go.RowKit
theorem fill_iff {R : Int} {loads ws : List Int} {w : Int} {m : Nat} (hw : 0 ≤ w) (hws : ∀ x ∈ ws, 0 ≤ x) : Fill R loads (w :: ws) m ↔ (∃ j x, loads[j]? = some x ∧ x + w ≤ R ∧ Fill R (loads.set j (x + w)) ws m) ∨ (1 ≤ m ∧ w ≤ R ∧ Fill R (loads ++ [w]) ws (m - 1)) := by
  refine ⟨fill_step hw hws, ?_⟩
  rintro (⟨j, x, h1, _, h3⟩ | ⟨h1, _, h3⟩)
  · exact fill_here h1 h3
  · exact fill_new h1 h3
def widthF (K : Int) (l : List Ask) (i : Nat) : Int := lenF l i + K
def loadsG (K : Int) (l : List Ask) (R : List (List Int)) : List Int := R.map fun r => sizeTo K l r l.length
/-- rolls that are begun, with at most q pieces -/
structure BInv (L K : Int) (l : List Ask) (q : Nat) (R : List (List Int)) : Prop where
  len : ∀ r ∈ R, r.length = l.length
  low : ∀ r ∈ R, ∀ p ∈ r, 0 ≤ p ∧ p ≤ (q : Int)
  size : ∀ r ∈ R, sizeTo K l r l.length ≤ L + K
theorem bump_size {K : Int} {l : List Ask} {r : List Int} {i : Nat} (hr : r.length = l.length) (hi : i < l.length) : sizeTo K l (bump r i) l.length = sizeTo K l r l.length + widthF K l i := by
  have ha : l[i]? = some l[i] := List.getElem?_eq_getElem hi
  unfold bump
  rw [size_set ha hr _ l.length (Nat.le_refl _), if_pos hi, show r.getD i 0 + 1 - r.getD i 0 = 1 by omega, Int.one_mul]
  unfold widthF
  rw [lenF_at ha]
theorem bump_q {r : List Int} {i q : Nat} (h : ∀ p ∈ r, 0 ≤ p ∧ p ≤ (q : Int)) : ∀ p ∈ bump r i, 0 ≤ p ∧ p ≤ ((q + 1 : Nat) : Int) := fun p hp => by
  unfold bump at hp
  rcases List.mem_or_eq_of_mem_set hp with h1 | h1
  · have := h p h1; push_cast; omega
  · subst h1
    rw [List.getD_eq_getElem?_getD]
    cases e : r[i]? with
    | none => simp; omega
    | some v =>
      have := h v (List.mem_of_getElem? e)
      show 0 ≤ v + 1 ∧ v + 1 ≤ _
      push_cast; omega
/-- the rolls with one piece more, on roll k, which may be a new one -/
def nextG (l : List Ask) (R : List (List Int)) (k i : Nat) : List (List Int) := if k < R.length then R.set k (bump (R.getD k []) i) else R ++ [bump (List.replicate l.length 0) i]
def rowG (l : List Ask) (R : List (List Int)) (k : Nat) : List Int := if k < R.length then R.getD k [] else List.replicate l.length 0
theorem fits_row {L K : Int} {l : List Ask} {r : List Int} (hr : r.length = l.length) (h : ∀ p ∈ r, 0 ≤ p ∧ p ≤ 50) : fitsB L K l r = decide (sizeTo K l r l.length ≤ L + K) := by
  unfold fitsB
  rw [okP_iff.2 h, Bool.true_and, hr]
theorem row_ok {L K : Int} {l : List Ask} {q : Nat} {R : List (List Int)} (h : BInv L K l q R) (k : Nat) : (rowG l R k).length = l.length ∧ ∀ p ∈ rowG l R k, 0 ≤ p ∧ p ≤ (q : Int) := by
  unfold rowG
  by_cases hk : k < R.length
  · rw [if_pos hk, List.getD_eq_getElem?_getD, List.getElem?_eq_getElem hk]
    exact ⟨h.len _ (List.getElem_mem hk), h.low _ (List.getElem_mem hk)⟩
  · rw [if_neg hk]
    exact ⟨List.length_replicate, fun p hp => by rw [(List.mem_replicate.1 hp).2]; omega⟩
theorem size_row {K : Int} {l : List Ask} {R : List (List Int)} (k : Nat) : sizeTo K l (rowG l R k) l.length = (loadsG K l R).getD k 0 := by
  unfold rowG loadsG
  rw [List.getD_eq_getElem?_getD, List.getD_eq_getElem?_getD, List.getElem?_map]
  by_cases hk : k < R.length
  · rw [if_pos hk, List.getElem?_eq_getElem hk]; rfl
  · rw [if_neg hk, List.getElem?_eq_none (by omega)]
    exact size_zero _ (Nat.le_refl _)
theorem next_row (l : List Ask) (R : List (List Int)) (k i : Nat) : nextG l R k i = if k < R.length then R.set k (bump (rowG l R k) i) else R ++ [bump (rowG l R k) i] := by
  unfold nextG rowG
  by_cases hk : k < R.length
  · rw [if_pos hk, if_pos hk, if_pos hk]
  · rw [if_neg hk, if_neg hk, if_neg hk]
theorem next_loads {L K : Int} {l : List Ask} {q : Nat} {R : List (List Int)} (h : BInv L K l q R) {k i : Nat} (hk : k ≤ R.length) (hi : i < l.length) : loadsG K l (nextG l R k i) = if k < R.length then (loadsG K l R).set k ((loadsG K l R).getD k 0 + widthF K l i) else loadsG K l R ++ [widthF K l i] := by
  have h1 := bump_size (K := K) (row_ok h k).1 hi
  rw [size_row] at h1
  rw [next_row]
  by_cases hk2 : k < R.length
  · rw [if_pos hk2, if_pos hk2, ← h1]
    unfold loadsG
    rw [List.map_set]
  · rw [if_neg hk2, if_neg hk2]
    have h2 : (loadsG K l R).getD k 0 = 0 := by
      unfold loadsG
      rw [List.getD_eq_getElem?_getD, List.getElem?_eq_none (by rw [List.length_map]; omega)]; rfl
    rw [h2, Int.zero_add] at h1
    conv => lhs; unfold loadsG
    rw [List.map_append, List.map_singleton, h1]; rfl
theorem next_inv {L K : Int} {l : List Ask} {q : Nat} {R : List (List Int)} (h : BInv L K l q R) {k i : Nat} (hi : i < l.length) (hs : sizeTo K l (bump (rowG l R k) i) l.length ≤ L + K) : BInv L K l (q + 1) (nextG l R k i) := by
  obtain ⟨r1, r2⟩ := row_ok h k
  have hb := bump_q (i := i) r2
  have key : ∀ x ∈ nextG l R k i, x ∈ R ∨ x = bump (rowG l R k) i := fun x hx => by
    rw [next_row] at hx
    split at hx
    · rcases List.mem_or_eq_of_mem_set hx with h1 | h1
      · exact .inl h1
      · exact .inr h1
    · rcases List.mem_append.1 hx with h1 | h1
      · exact .inl h1
      · exact .inr (List.mem_singleton.1 h1)
  refine ⟨fun x hx => ?_, fun x hx p hp => ?_, fun x hx => ?_⟩
  · rcases key x hx with h1 | rfl
    · exact h.len x h1
    · rw [bump_len]; exact r1
  · rcases key x hx with h1 | rfl
    · have := h.low x h1 p hp; push_cast; omega
    · exact hb p hp
  · rcases key x hx with h1 | rfl
    · exact h.size x h1
    · exact hs
theorem next_len (l : List Ask) (R : List (List Int)) {k i : Nat} (hk : k ≤ R.length) : (nextG l R k i).length = max R.length (k + 1) := by
  unfold nextG
  split
  · rw [List.length_set]; omega
  · rw [List.length_append, List.length_singleton]; omega
/-- what the search at roll k finds -/
def HitG (L K : Int) (l : List Ask) (Q : List Nat) (R : List (List Int)) (most k : Nat) : Prop :=
  ∃ i rest, Q = i :: rest ∧ sizeTo K l (bump (rowG l R k) i) l.length ≤ L + K ∧ Fill (L + K) (loadsG K l (nextG l R k i)) (rest.map (widthF K l)) (most - (nextG l R k i).length)
theorem fill_hits {L K : Int} {l : List Ask} {i q : Nat} {rest : List Nat} {R : List (List Int)} {most : Nat} (h : BInv L K l q R) (hi : i < l.length) (hr : ∀ x ∈ rest, 0 ≤ widthF K l x) (hw : 0 ≤ widthF K l i) (hm : R.length ≤ most) :
    Fill (L + K) (loadsG K l R) ((i :: rest).map (widthF K l)) (most - R.length) ↔ ∃ k, k ≤ R.length ∧ k < most ∧ HitG L K l (i :: rest) R most k := by
  rw [List.map_cons, fill_iff hw (fun x hx => by obtain ⟨y, hy, rfl⟩ := List.mem_map.1 hx; exact hr y hy)]
  have hll : (loadsG K l R).length = R.length := by unfold loadsG; rw [List.length_map]
  constructor
  · rintro (⟨j, x, h1, h2, h3⟩ | ⟨h1, h2, h3⟩)
    · have hj : j < R.length := by rw [← hll]; exact (List.getElem?_eq_some_iff.1 h1).1
      have hx : (loadsG K l R).getD j 0 = x := by rw [List.getD_eq_getElem?_getD, h1]; rfl
      refine ⟨j, by omega, by omega, i, rest, rfl, ?_, ?_⟩
      · rw [bump_size (row_ok h j).1 hi, size_row, hx]; exact h2
      · rw [next_loads h (by omega) hi, if_pos hj, hx, next_len l R (by omega), show max R.length (j + 1) = R.length by omega]
        exact h3
    · refine ⟨R.length, Nat.le_refl _, by omega, i, rest, rfl, ?_, ?_⟩
      · rw [bump_size (row_ok h _).1 hi, size_row, List.getD_eq_getElem?_getD, List.getElem?_eq_none (by omega)]
        show 0 + _ ≤ _
        omega
      · rw [next_loads h (Nat.le_refl _) hi, if_neg (by omega), next_len l R (Nat.le_refl _), show max R.length (R.length + 1) = R.length + 1 by omega, show most - (R.length + 1) = most - R.length - 1 by omega]
        exact h3
  · rintro ⟨k, hk, hkm, i', rest', he, h2, h3⟩
    injection he with e1 e2
    subst e1 e2
    rw [next_loads h hk hi, next_len l R hk] at h3
    rw [bump_size (row_ok h k).1 hi, size_row] at h2
    rcases Nat.lt_or_ge k R.length with h4 | h4
    · left
      rw [if_pos h4, show max R.length (k + 1) = R.length by omega] at h3
      have hg : (loadsG K l R)[k]? = some ((loadsG K l R).getD k 0) := by
        rw [List.getD_eq_getElem?_getD, List.getElem?_eq_getElem (by omega)]; rfl
      exact ⟨k, _, hg, h2, h3⟩
    · right
      rw [if_neg (by omega), show max R.length (k + 1) = R.length + 1 by omega] at h3
      rw [List.getD_eq_getElem?_getD, List.getElem?_eq_none (by omega)] at h2
      have h5 : 0 + widthF K l i ≤ L + K := h2
      exact ⟨by omega, by omega, by rw [show most - R.length - 1 = most - (R.length + 1) by omega]; exact h3⟩
structure Hd where
  A : Option Addr
  n : Nat
  c : Nat
instance : Inhabited Hd := ⟨⟨none, 0, 0⟩⟩
def Hd.enc (h : Hd) : List Value := [.slice h.A h.n h.c]
theorem hd_one (h : Hd) : ∀ u ∈ Hd.enc h, u.oneCell' = true := fun u hu => by simp [Hd.enc] at hu; subst hu; rfl
theorem et_rows : ElemT Tryd.prog 125 25 1 := elemT_mk Tryd.underlying125 (z := .slice none 0 0) (bytes := 24) (by kernel_rfl) rfl (by omega) (by omega)
/-- rows that can be read -/
structure RowsIn (w : World) (A : Option Addr) (hs : List Hd) (R : List (List Int)) : Prop where
  row : Slc Hd.enc 1 w w.heap.size A hs
  len : hs.length = R.length
  in_ : ∀ (i : Nat) h r, hs[i]? = some h → R[i]? = some r → h.n = r.length ∧ Slc intEnc 1 w w.heap.size h.A r
theorem RowsIn.on {w w' : World} {A : Option Addr} {hs : List Hd} {R : List (List Int)} (h : RowsIn w A hs R) (hb : Below w.heap.size w w') : RowsIn w' A hs R :=
  ⟨h.row.on hb, h.len, fun i x r h1 h2 => by
    obtain ⟨a, b⟩ := h.in_ i x r h1 h2
    exact ⟨a, b.on hb⟩⟩
theorem RowsIn.nil_ (w : World) : RowsIn w none [] [] := ⟨fun i x h => by simp at h, rfl, fun i x r h => by simp at h⟩
theorem rows_at {w : World} {A : Option Addr} {hs : List Hd} {R : List (List Int)} {k : Nat} (h : RowsIn w A hs R) (hk : k < R.length) :
    ∃ r b off A' c', R[k]? = some r ∧ A = some ⟨b, off, none⟩ ∧ b < w.heap.size ∧ w.cell? ⟨b, off + k, none⟩ = some (.slice A' r.length c') ∧ Slc intEnc 1 w w.heap.size A' r := by
  have hx : hs[k]? = some (hs[k]'(by rw [h.len]; exact hk)) := List.getElem?_eq_getElem (by rw [h.len]; exact hk)
  obtain ⟨b, off, ha, hb, h0⟩ := h.row k _ hx
  have hr : R[k]? = some R[k] := List.getElem?_eq_getElem hk
  obtain ⟨e1, e2⟩ := h.in_ k _ _ hx hr
  have h1 := h0 0 _ rfl
  rw [Nat.mul_one, Nat.add_zero, e1] at h1
  exact ⟨R[k], b, off, _, _, hr, ha, hb, h1, e2⟩
/-- rows that the call owns, each in a block of its own -/
structure RowsOwn (w : World) (base : Nat) (hs : List Hd) (R : List (List Int)) : Prop where
  len : hs.length = R.length
  in_ : ∀ (i : Nat) h r, hs[i]? = some h → R[i]? = some r → h.n = r.length ∧ ∃ g js, h.A = some ⟨g, 0, none⟩ ∧ base ≤ g ∧ Blk w g 3 (intJ r js)
  apart : ∀ (i j : Nat) h h', hs[i]? = some h → hs[j]? = some h' → h.A = h'.A → i = j
theorem RowsOwn.nil_ (w : World) (base : Nat) : RowsOwn w base [] [] := ⟨rfl, fun i b r h => by simp at h, fun i j b b' h => by simp at h⟩
section
variable {w w' : World} {base : Nat} {hs : List Hd} {R : List (List Int)}
theorem RowsOwn.keep (h : RowsOwn w base hs R) (hk : ∀ g cs, base ≤ g → (∃ (i : Nat) (x : Hd), hs[i]? = some x ∧ x.A = some ⟨g, 0, none⟩) → Blk w g 3 cs → Blk w' g 3 cs) : RowsOwn w' base hs R :=
  ⟨h.len, fun i b r h1 h2 => by
    obtain ⟨a2, g, js, a3, a4, a5⟩ := h.in_ i b r h1 h2
    exact ⟨a2, g, js, a3, a4, hk g _ a4 ⟨i, b, h1, a3⟩ a5⟩, h.apart⟩
theorem RowsOwn.below (h : RowsOwn w base hs R) (hb : Below w.heap.size w w') : RowsOwn w' base hs R := h.keep fun g r _ _ hB => hB.below hb hB.lt
theorem RowsOwn.grown {v : Value} {base' : Nat} {hs' : List Hd} (h : RowsOwn w base hs R) (hO : Own w base' 25 1 Hd.enc v hs') (hg : w.grownBy w' v.ownBlock) : RowsOwn w' base hs R := h.keep fun g r _ _ hB => hB.grownv hg (own_ne_blk hO hB (by decide))
theorem RowsOwn.at_ (h : RowsOwn w base hs R) {i : Nat} {r : List Int} (hr : R[i]? = some r) : ∃ g c js, hs[i]? = some ⟨some ⟨g, 0, none⟩, r.length, c⟩ ∧ base ≤ g ∧ Blk w g 3 (intJ r js) := by
  obtain ⟨b, hb⟩ : ∃ b, hs[i]? = some b := ⟨_, List.getElem?_eq_getElem (by rw [h.len]; exact (List.getElem?_eq_some_iff.1 hr).1)⟩
  obtain ⟨a2, g, js, a3, a4, a5⟩ := h.in_ i b r hb hr
  obtain ⟨A, n, c⟩ := b
  dsimp only at a2 a3
  subst a2 a3
  exact ⟨g, c, js, hb, a4, a5⟩
theorem RowsOwn.put (h : RowsOwn w base hs R) {i g n c : Nat} {r : List Int} (hi : hs[i]? = some ⟨some ⟨g, 0, none⟩, n, c⟩) (hr : R[i]? = some r) {r' : List Int} {js : List Value} (hl : r'.length = r.length) (hc : Chg (fun k => k = g) w w') (hG : Blk w' g 3 (intJ r' js)) : RowsOwn w' base hs (R.set i r') := by
  refine ⟨by rw [List.length_set]; exact h.len, fun j b x h1 h2 => ?_, h.apart⟩
  rw [List.getElem?_set] at h2
  by_cases e : i = j
  · subst e
    rw [if_pos rfl, if_pos (List.getElem?_eq_some_iff.1 hr).1] at h2
    injection h2 with h2
    subst h2
    rw [hi] at h1
    injection h1 with h1
    subst h1
    obtain ⟨a2, g', js', a3, a4, _⟩ := h.in_ i _ r hi hr
    injection a3 with a3
    injection a3 with a3
    subst a3
    exact ⟨by rw [hl]; exact a2, g, js, rfl, a4, hG⟩
  · rw [if_neg e] at h2
    obtain ⟨a2, g', js', a3, a4, a5⟩ := h.in_ j b x h1 h2
    refine ⟨a2, g', js', a3, a4, a5.chg1 hc fun he => ?_⟩
    subst he
    exact e (h.apart i j _ b hi h1 a3.symm)
theorem RowsOwn.lt (h : RowsOwn w base hs R) {i : Nat} {b : Hd} (hb : hs[i]? = some b) : ∃ g, b.A = some ⟨g, 0, none⟩ ∧ g < w.heap.size := by
  obtain ⟨r, hr⟩ : ∃ r, R[i]? = some r := ⟨_, List.getElem?_eq_getElem (by rw [← h.len]; exact (List.getElem?_eq_some_iff.1 hb).1)⟩
  obtain ⟨_, g, js, a3, _, a5⟩ := h.in_ i b r hb hr
  exact ⟨g, a3, a5.lt⟩
theorem RowsOwn.snoc (h : RowsOwn w base hs R) {g n c : Nat} {r : List Int} {js : List Value} (hn : n = r.length) (hg : base ≤ g) (hB : Blk w g 3 (intJ r js)) (hne : ∀ (i : Nat) b, hs[i]? = some b → b.A ≠ some ⟨g, 0, none⟩) : RowsOwn w base (hs ++ [⟨some ⟨g, 0, none⟩, n, c⟩]) (R ++ [r]) := by
  subst hn
  have hlast : ∀ {j : Nat} {b : Hd}, (hs ++ [(⟨some ⟨g, 0, none⟩, r.length, c⟩ : Hd)])[j]? = some b → j < hs.length ∧ hs[j]? = some b ∨ j = hs.length ∧ b = ⟨some ⟨g, 0, none⟩, r.length, c⟩ := fun {j b} hj => by
    rcases Nat.lt_or_ge j hs.length with h1 | h1
    · rw [List.getElem?_append_left h1] at hj
      exact .inl ⟨h1, hj⟩
    · rw [List.getElem?_append_right h1] at hj
      have h2 := (List.getElem?_eq_some_iff.1 hj).1
      simp at h2
      have h3 : j = hs.length := by omega
      subst h3
      rw [Nat.sub_self] at hj
      simp at hj
      exact .inr ⟨rfl, hj.symm⟩
  refine ⟨by rw [List.length_append, List.length_append, h.len]; rfl, fun i b x h1 h2 => ?_, fun i j b b' h1 h2 he => ?_⟩
  · rcases hlast h1 with ⟨h3, h4⟩ | ⟨h3, h4⟩
    · rw [List.getElem?_append_left (by rw [← h.len]; exact h3)] at h2
      exact h.in_ i b x h4 h2
    · subst h4 h3
      rw [List.getElem?_append_right (by rw [h.len]; exact Nat.le_refl _), h.len, Nat.sub_self] at h2
      simp at h2
      subst h2
      exact ⟨rfl, g, js, rfl, hg, hB⟩
  · rcases hlast h1 with ⟨h3, h4⟩ | ⟨h3, h4⟩ <;> rcases hlast h2 with ⟨h5, h6⟩ | ⟨h5, h6⟩
    · exact h.apart i j b b' h4 h6 he
    · subst h6
      exact absurd he (hne i b h4)
    · subst h4
      exact absurd he.symm (hne j b' h6)
    · omega
theorem RowsOwn.read {A : Option Addr} (h : RowsOwn w base hs R) (hS : Slc Hd.enc 1 w w.heap.size A hs) : RowsIn w A hs R := by
  refine ⟨hS, h.len, fun i b r h1 h2 => ?_⟩
  obtain ⟨a2, g, js, a3, _, a5⟩ := h.in_ i b r h1 h2
  exact ⟨a2, by rw [a3]; exact intJ_slc a5⟩
end
theorem refFits_q (L K : Int) (A : Option Addr) (c : Nat) (l : List Ask) (AP : Option Addr) (cP n : Nat) (ps : List Int) (w : World) (hS : Slc Ask.enc 2 w w.heap.size A l) (hP : Slc intEnc 1 w w.heap.size AP ps) (hv : VK L K l) (hpl : ps.length = l.length) (hn : ps.length = n) {v : Bool} (h : fitsB L K l ps = v) :
    Calls Tryd.prog 59 #[.agg #[.int .i64 L, .int .i64 K, .slice A l.length c], .slice AP n cP] w fun e w' => e = .returned (.bool v) ∧ Below w.heap.size w w' := by
  subst hn h; exact refKFits_any L K A c l AP cP ps w hS hP hv hpl
noncomputable def packB (L K : Int) (l : List Ask) (Q : List Nat) (i : Nat) (R : List (List Int)) (most : Nat) : Bool := @decide (Fill (L + K) (loadsG K l R) ((Q.drop i).map (widthF K l)) (most - R.length)) (Classical.propDecidable _)
theorem packB_iff {L K : Int} {l : List Ask} {Q : List Nat} {i : Nat} {R : List (List Int)} {most : Nat} : packB L K l Q i R most = true ↔ Fill (L + K) (loadsG K l R) ((Q.drop i).map (widthF K l)) (most - R.length) := by unfold packB; exact @decide_eq_true_iff _ (Classical.propDecidable _)
theorem packB_of {L K : Int} {l : List Ask} {Q : List Nat} {i : Nat} {R : List (List Int)} {most : Nat} {b : Bool} (h : Fill (L + K) (loadsG K l R) ((Q.drop i).map (widthF K l)) (most - R.length) ↔ b = true) : packB L K l Q i R most = b := by
  have h2 := packB_iff (L := L) (K := K) (l := l) (Q := Q) (i := i) (R := R) (most := most)
  cases b <;> cases h3 : packB L K l Q i R most
  · rfl
  · exact absurd (h.1 (h2.1 h3)) (by decide)
  · exact absurd (h2.2 (h.2 rfl)) (by rw [h3]; decide)
  · rfl
def PackAt (L K : Int) (A : Option Addr) (c : Nat) (l : List Ask) (AQ : Option Addr) (cQ : Nat) (Q : List Nat) (i : Nat) : Prop :=
  ∀ (AB : Option Addr) (cB n : Nat) (hs : List Hd) (R : List (List Int)) (most : Nat) (w : World), Slc Ask.enc 2 w w.heap.size A l → Slc intEnc 1 w w.heap.size AQ (Q.map fun x : Nat => (x : Int)) → RowsIn w AB hs R → R.length = n → BInv L K l i R → R.length ≤ most → most ≤ 100 → R.length ≤ i → ∀ v, packB L K l Q i R most = v →
    Calls Tryd.prog 67 #[.agg #[.int .i64 L, .int .i64 K, .slice A l.length c], .slice AQ Q.length cQ, .int .i64 i, .slice AB n cB, .int .i64 most] w fun e w' => e = .returned (.bool v) ∧ Below w.heap.size w w'
theorem bump_atQ {r : List Int} {i : Nat} {v : Int} (h : r[i]? = some v) : bump r i = r.set i (v + 1) := by unfold bump; rw [getD_at h]
theorem queue_cellQ {Q : List Nat} {m : Nat} {x : Int} (h : (Q.map fun x : Nat => (x : Int))[m]? = some x) : ∃ i : Nat, x = (i : Int) ∧ Q[m]? = some i := by
  rw [List.getElem?_map] at h
  obtain ⟨i, hi, rfl⟩ := Option.map_eq_some_iff.1 h
  exact ⟨i, rfl, hi⟩
theorem below_eq (X W : World) (h : X = W) : Below X.heap.size X W := by subst h; exact Below.refl _ _
theorem pack_end (L K : Int) (A : Option Addr) (c : Nat) (l : List Ask) (hv : VK L K l) (AQ : Option Addr) (cQ : Nat) (Q : List Nat) : PackAt L K A c l AQ cQ Q Q.length := by
  intro AB cB n hs R most w hS hq hR hn hI hm hm9 hRi v hvv
  have hvt : v = true := by
    rw [← hvv]
    refine packB_iff.2 ?_
    rw [List.drop_length]
    refine fill_nil (by have := hv.hL; have := hv.hK; omega) fun x hx => ?_
    obtain ⟨r, hr, rfl⟩ := List.mem_map.1 hx
    exact hI.size r hr
  subst hvt
  have hB := (Below.refl w.heap.size w).alloc (Nat.le_refl _) (.cells #[.int .i64 L, .int .i64 K, .slice A l.length c] 24)
  have heq : ((Q.length : Int) == (Q.length : Int)) = true := by simp
  clear hvv
  go_enter Tryd.func67, Tryd.ntmps67
  go_wp2_with fail
  go_ret
  exact ⟨rfl, hB⟩
set_option maxRecDepth 100000 in
set_option maxHeartbeats 8000000 in
theorem pack_step (L K : Int) (A : Option Addr) (c : Nat) (l : List Ask) (hv : VK L K l) (AQ : Option Addr) (cQ : Nat) (Q : List Nat) (hQ : ∀ x ∈ Q, x < l.length) (hQ9 : Q.length ≤ 50) (i : Nat) (hlt : i < Q.length) (IH : PackAt L K A c l AQ cQ Q (i + 1)) : PackAt L K A c l AQ cQ Q i := by
  intro AB cB n hs R most w hS hq hR hn hI hm hm9 hRi v hvv
  subst hn
  have HIH := hide IH
  have HVK := hide hv
  have HBI := hide hI
  have HVV := hide hvv
  obtain ⟨q0, hq0e⟩ : ∃ q, Q[i]? = some q := ⟨_, List.getElem?_eq_getElem hlt⟩
  have hq0 := hQ q0 (List.mem_of_getElem? hq0e)
  have HQ0 := hide hq0e
  have HDR : Hid (Q.drop i = q0 :: Q.drop (i + 1)) := by
    obtain ⟨p1, p2⟩ := List.getElem?_eq_some_iff.1 hq0e
    show _ = _
    rw [List.drop_eq_getElem_cons p1, p2]
  have hW0 : ∀ x < l.length, 0 ≤ widthF K l x := fun x hx => by
    have ha : l[x]? = some l[x] := List.getElem?_eq_getElem hx
    have := (hv.ask _ (List.getElem_mem hx)).1
    have := hv.hK
    unfold widthF
    rw [lenF_at ha]; omega
  have HFI : Hid (packB L K l Q i R most = true ↔ ∃ k, k ≤ R.length ∧ k < most ∧ HitG L K l (Q.drop i) R most k) := by
    show _ ↔ _
    rw [packB_iff, HDR.out]
    exact fill_hits hI hq0 (fun x hx => hW0 x (hQ x (List.mem_of_mem_drop hx))) (hW0 q0 hq0) hm
  have hl8 := hv.few
  have hne : ((i : Int) == (Q.length : Int)) = false := by
    have h9 : (i : Int) ≠ (Q.length : Int) := by omega
    simpa using h9
  have hqi : (q0 : Int) < (l.length : Int) := by omega
  have hiQ : (i : Int) < (Q.length : Int) := by omega
  have hmk := mk_zeros l.length (by omega)
  clear hv hI hvv hq0e hW0 IH
  have hk := Blk.new w 24 #[.int .i64 L, .int .i64 K, .slice A l.length c]
  have hB := (Below.refl w.heap.size w).alloc (Nat.le_refl _) (.cells #[.int .i64 L, .int .i64 K, .slice A l.length c] 24)
  have hH0 : Hid (∀ j, j < 0 → j < most → ¬ HitG L K l (Q.drop i) R most j) := fun j hj => absurd hj (Nat.not_lt_zero _)
  go_enter Tryd.func67, Tryd.ntmps67
  go_upto_region 1 with fail
  generalize w.alloc (.cells #[.int .i64 L, .int .i64 K, .slice A l.length c] 24) = W at *
  have c0 := hk.cell_ 0 rfl
  have c1 := hk.cell_ 1 rfl
  have c2 := hk.cell_ 2 rfl
  go_wp2_with fail
  clear c0 c1 c2
  go_loopw [11] (fun y W => ∃ (r : Nat), y = .int .i64 r ∧ r ≤ R.length + 1 ∧ Hid (∀ j, j < r → j < most → ¬ HitG L K l (Q.drop i) R most j) ∧ Blk W w.heap.size 24 #[.int .i64 L, .int .i64 K, .slice A l.length c] ∧ Below w.heap.size w W) (fun y _ => R.length + 2 - (intOf y).toNat)
  case atStart => exact ⟨0, rfl, Nat.zero_le _, hH0, hk, hB⟩
  case round =>
    clear hk hB hH0
    obtain ⟨W, rfl⟩ : ∃ W : World, W = wr := ⟨_, rfl⟩
    obtain ⟨r, rfl, hr, HH, hk, hB⟩ := hrel
    have c0 := hk.cell_ 0 rfl
    have c1 := hk.cell_ 1 rfl
    have c2 := hk.cell_ 2 rfl
    by_cases hr1 : r ≤ R.length
    · have hr1i : (r : Int) ≤ (R.length : Int) := by omega
      by_cases hr2 : r < most
      · have hr2i : (r : Int) < (most : Int) := by omega
        have hWz := hk.lt
        obtain ⟨W0, hW0⟩ : ∃ X : World, X = W := ⟨_, rfl⟩
        have hL := below_eq W0 W hW0
        rw [← hW0] at hWz
        have hO : Own W W0.heap.size 25 1 Hd.enc (.slice none 0 0) [] := Own.nil_
        have hRO : RowsOwn W W0.heap.size [] (R.take 0) := RowsOwn.nil_ _ _
        clear hW0
        go_wp2_with fail
        clear c0 c1 c2
        go_loopw [12, 13] (fun v y W => ∃ (n : Nat) (hs2 : List Hd), y = .int .i64 n ∧ n ≤ R.length ∧ Blk W w.heap.size 24 #[.int .i64 L, .int .i64 K, .slice A l.length c] ∧ Below W0.heap.size W0 W ∧ Own W W0.heap.size 25 1 Hd.enc v hs2 ∧ RowsOwn W W0.heap.size hs2 (R.take n) ∧ Below w.heap.size w W) (fun v y _ => R.length - (intOf y).toNat)
        case atStart => exact ⟨0, [], rfl, Nat.zero_le _, hk, hL, hO, hRO, hB⟩
        case round =>
          clear hk hB hL hO hRO
          obtain ⟨W, rfl⟩ : ∃ W : World, W = wr := ⟨_, rfl⟩
          obtain ⟨n, hs2, rfl, hnR, hk, hL, hO, hRO, hB⟩ := hrel
          obtain ⟨Ao, co, rfl, hSo⟩ := hO.form fun _ => rfl
          have hLs := hL.size
          by_cases hnl : n < R.length
          · obtain ⟨r0, b, off, A', c', hr0, hA, hbl, d0, hQ0⟩ := rows_at (hR.on hB) hnl
            have hni : (n : Int) < (R.length : Int) := by omega
            have hr0l := HBI.out.len r0 (List.mem_of_getElem? hr0)
            have hr0n : r0 ≠ [] := by rintro rfl; simp at hr0l; omega
            have HTK : Hid (R.take (n + 1) = R.take n ++ [r0]) := by show _ = _; rw [List.take_add_one, hr0]; rfl
            have hr08 : r0.length ≤ 8 := by omega
            have HR0N := hide hr0n
            have HHS : Hid (hs2.length ≤ 100) := by
              have h1 := hRO.len
              have h2 : (R.take n).length ≤ R.length := by simp; omega
              show _ ≤ _
              omega
            have hhs := HHS.out
            have HNG : Hid (∀ (j : Nat) b, hs2[j]? = some b → ∀ g, W.heap.size ≤ g → b.A ≠ some ⟨g, 0, none⟩) := fun j b hb g hg he => by
              obtain ⟨g', h1, h2⟩ := hRO.lt hb
              rw [h1] at he
              injection he with he
              injection he with he
              omega
            have d0A : (W.alloc (.cells #[] 3)).cell? ⟨b, off + n, none⟩ = some (.slice A' r0.length c') := (((Below.refl W.heap.size W).alloc (Nat.le_refl _) (.cells #[] 3)).cell (p := ⟨b, off + n, none⟩) hbl).trans d0
            clear hr0 hr0l hr0n
            subst hA
            have c0 := hk.cell_ 0 rfl
            have c1 := hk.cell_ 1 rfl
            have c2 := hk.cell_ 2 rfl
            go_wp2_with (at_builtin; first | (refine wpList_app_own (base := W.heap.size) (xs := ([] : List Int)) (ys := r0) _ _ rfl rfl et_ints (Own.empty_ (Blk.new W 3 #[]) (Nat.le_refl _)) rfl rfl (hQ0.on ((Below.refl _ W).alloc (Nat.le_refl _) (.cells #[] 3))) rfl (fun _ => rfl) intEnc_one (by simp <;> omega) (by simp) ?_; intro v7 W7 o7 hb7 hg7; rw [List.nil_append] at o7; obtain ⟨A7, c7, rfl, _⟩ := o7.form (fun _ => rfl); have hbT := ((Below.refl W.heap.size W).alloc (Nat.le_refl _) (.cells #[] 3)).trans hb7; have hO7 := hO.below hbT) | (refine wpList_app_own (base := W0.heap.size) (f := Hd.enc) (ys := [(⟨A7, r0.length, c7⟩ : Hd)]) _ _ rfl rfl et_rows (hO7.alloc _) rfl rfl ((Blk.new W7 25 #[.slice A7 r0.length c7]).slc1 rfl) rfl (fun _ => rfl) hd_one (by simp <;> omega) (by have := hbT.size; simp <;> omega) ?_; intro v8 W8 o8 hb8 hg8))
            have hO8 := hO7.alloc (.cells #[.slice A7 r0.length c7] 25)
            obtain ⟨g, js, rfl, hgW, hG⟩ := intJ_own o7 HR0N.out
            have hbA := hbT.alloc hbT.size (.cells #[.slice (some ⟨g, 0, none⟩) r0.length c7] 25)
            have hBW : Below W0.heap.size W W8 := (hbA.mono hLs).trans hb8
            have hRO8 := (hRO.below hbA).grown hO8 hg8
            have hG8 := (hG.alloc (.cells #[.slice (some ⟨g, 0, none⟩) r0.length c7] 25)).grownv hg8 (own_ne_blk hO8 (hG.alloc _) (by decide))
            have hRO9 := hRO8.snoc (n := r0.length) (c := c7) rfl (Nat.le_trans hLs hgW) hG8 (fun j b hb => HNG.out j b hb g hgW)
            rw [← HTK.out] at hRO9
            have hk8 := hk.below hBW hWz
            have hL8 := hL.trans hBW
            have hB8 := hB.trans (hBW.mono (Nat.le_of_lt hWz))
            clear hO hRO hO7 hO8 hRO8 hG hG8 hbA hBW hb8 hg8 o7 hb7 hg7 hbT hk hL hB hSo
            go_roundw
            case rel => exact ⟨n + 1, _, by go_num, by omega, hk8, hL8, o8, hRO9, hB8⟩
            case measure => simp [intOf]; omega
          · obtain rfl : n = R.length := by omega
            rw [List.take_length] at hRO
            have HHL := hide hRO.len
            have c0 := hk.cell_ 0 rfl
            have c1 := hk.cell_ 1 rfl
            have c2 := hk.cell_ 2 rfl
            by_cases hreq : r = R.length
            · have hreqb : ((r : Int) == (R.length : Int)) = true := by
                have h9 : (r : Int) = (R.length : Int) := by omega
                simpa using h9
              have hz1 : (W.alloc (.cells (intJ (List.replicate l.length 0) []) 3)).heap.size = W.heap.size + 1 := by simp
              have hbA : Below W.heap.size W ((W.alloc (.cells (intJ (List.replicate l.length 0) []) 3)).alloc (.cells #[.slice (some ⟨W.heap.size, 0, none⟩) l.length l.length] 25)) := ((Below.refl _ W).alloc (Nat.le_refl _) _).alloc (by omega) _
              have hM := (Blk.new W 3 (intJ (List.replicate l.length 0) [])).alloc (.cells #[.slice (some ⟨W.heap.size, 0, none⟩) l.length l.length] 25)
              have hm := Blk.new (W.alloc (.cells (intJ (List.replicate l.length 0) []) 3)) 25 #[.slice (some ⟨W.heap.size, 0, none⟩) l.length l.length]
              rw [hz1] at hm
              have HNG : Hid (∀ (j : Nat) b, hs2[j]? = some b → b.A ≠ some ⟨W.heap.size, 0, none⟩) := fun j b hb he => by
                obtain ⟨g, h1, h2⟩ := hRO.lt hb
                rw [h1] at he
                injection he with he
                injection he with he
                omega
              have hhs : hs2.length ≤ 100 := by have := hRO.len; omega
              have HRE := hide hreq
              clear hreq
              go_upto_region 13 with (at_builtin; refine wpList_app_own (base := W0.heap.size) (f := Hd.enc) (ys := [(⟨some ⟨W.heap.size, 0, none⟩, l.length, l.length⟩ : Hd)]) _ _ rfl rfl et_rows ((hO.alloc _).alloc _) rfl rfl (hm.slc1 rfl) rfl (fun _ => rfl) hd_one (by simp <;> omega) (by simp <;> omega) ?_; intro v4 W4 o4 hb4 hg4)
              have hO2 := (hO.alloc (.cells (intJ (List.replicate l.length 0) []) 3)).alloc (.cells #[.slice (some ⟨W.heap.size, 0, none⟩) l.length l.length] 25)
              have hBW4 : Below W0.heap.size W W4 := (hbA.mono hLs).trans hb4
              have hR3 := (hRO.below hbA).grown hO2 hg4
              have hM4 := hM.grownv hg4 (own_ne_blk hO2 hM (by decide))
              have hR4 := hR3.snoc (n := l.length) (c := l.length) (by rw [List.length_replicate]) hLs hM4 HNG.out
              have hk4 := hk.below hBW4 hWz
              have hL4 := hL.trans hBW4
              have hB4 := hB.trans (hBW4.mono (Nat.le_of_lt hWz))
              have hreq := HRE.out
              have hrow : rowG l R r = List.replicate l.length 0 := by unfold rowG; rw [if_neg (by omega)]
              have HNX0 : nextG l R r q0 = (R ++ [List.replicate l.length 0]).set r (bump (List.replicate l.length 0) q0) := by
                rw [next_row, if_neg (by omega), hrow, hreq]
                simp
              clear hO hRO hk hL hB c0 c1 c2
              obtain ⟨rr, hrre⟩ : ∃ X, X = List.replicate l.length (0 : Int) := ⟨_, rfl⟩
              obtain ⟨R2, hR2⟩ : ∃ X, X = R ++ [List.replicate l.length (0 : Int)] := ⟨_, rfl⟩
              obtain ⟨hs2, hhs2⟩ : ∃ X, X = hs2 ++ [(⟨some ⟨W.heap.size, 0, none⟩, l.length, l.length⟩ : Hd)] := ⟨_, rfl⟩
              have HRW : Hid (rr.length = l.length ∧ ∀ p ∈ rr, 0 ≤ p ∧ p ≤ (i : Int)) := by show _ ∧ _; rw [hrre, ← hrow]; exact row_ok HBI.out r
              have HNX : Hid (nextG l R r q0 = R2.set r (bump rr q0)) := by show _ = _; rw [HNX0, hR2, hrre]
              have HRG : Hid (rowG l R r = rr) := by show _ = _; rw [hrow, hrre]
              have hrr : R2[r]? = some rr := by rw [hR2, hreq, hrre]; simp
              have hO := o4
              have hRO := hR4
              rw [← hhs2] at hO hRO
              rw [← hR2] at hRO
              have hk := hk4
              have hL := hL4
              have hB := hB4
              clear hrow HNX0 hreq hrre hR2 hhs2 hO2 hR3 hR4 hM hM4 hm o4 hb4 hg4 hBW4 hbA hz1 hk4 hL4 hB4 hhs hSo
              obtain ⟨W, rfl⟩ : ∃ X : World, X = W4 := ⟨_, rfl⟩
              obtain ⟨Ao, co, rfl, _⟩ := hO.form fun _ => rfl
              -- at region 13: hs2, R2 (RowsOwn hRO, Own hO), row r of it is rr = rowG l R r; HNG : nextG l R r q0 = R2.set r (bump rr q0)
              obtain ⟨g, cg, js, hog, hge, hG⟩ := hRO.at_ hrr
              obtain ⟨gp, jp, hAe, hgp, hP⟩ := own_blkF hO (by rintro rfl; simp at hog)
              obtain ⟨u0, hv⟩ : ∃ v, rr[q0]? = some v := ⟨_, List.getElem?_eq_getElem (by rw [HRW.out.1]; exact hq0)⟩
              have hvb := HRW.out.2 u0 (List.mem_of_getElem? hv)
              have HBU := hide (bump_atQ hv)
              have HVI := hide hv
              have HRR := hide hrr
              have HOG := hide hog
              have HIL : Hid (q0 < (intJ rr js).size) := intJ_lt (by rw [HRW.out.1]; exact hq0)
              have HIR : Hid (q0 < rr.length) := by show _ < _; rw [HRW.out.1]; exact hq0
              have HP0 : Hid ((hs2.flatMap Hd.enc ++ jp).toArray[r * 1 + 0]? = some (.slice (some ⟨g, 0, none⟩) rr.length cg)) := blkF_get (f := Hd.enc) (n := 1) (fun _ => rfl) hog (j := 0) rfl
              have HPA : Hid ((hs2.flatMap Hd.enc ++ jp).toArray[r]? = some (.slice (some ⟨g, 0, none⟩) rr.length cg)) := by have := HP0.out; rw [Nat.mul_one, Nat.add_zero] at this; exact this
              have hrh : (r : Int) < (hs2.length : Int) := by have := (List.getElem?_eq_some_iff.1 hog).1; omega
              have hqr : (q0 : Int) < (rr.length : Int) := by rw [HRW.out.1]; exact hqi
              have e6 : IntKind.i64.wrap (u0 + 1) = u0 + 1 := IntWalk.i64_in _ (by omega)
              have e7 : IntKind.i64.wrap ((i : Int) + 1) = ((i + 1 : Nat) : Int) := IntWalk.i64_in _ (by omega)
              have hnpg := hP.ne_ hG (by decide)
              have HNPG := hide hnpg
              obtain ⟨x, b1, o1, hx, hA1, hb1, f0⟩ := ints_at' (hq.below (hB.mono (Nat.le_refl _))) (k := i) (by rw [List.length_map]; exact hlt)
              obtain ⟨q1, rfl, hq1⟩ := queue_cellQ hx
              obtain rfl : q1 = q0 := by rw [HQ0.out] at hq1; injection hq1 with h; exact h.symm
              clear hog hv hrr hnpg hx hq1
              subst hAe
              have c0 := hk.cell_ 0 rfl
              have c1 := hk.cell_ 1 rfl
              have c2 := hk.cell_ 2 rfl
              have p1 := hP.cell_ r HPA.out
              have g0 := hG.cell_ q1 (intJ_get HVI.out)
              subst hA1
              go_upto_region 13 with fail
              go_wp2_with fail
              refine wp_region_quiet_tail (C := fun w' => ∃ u : Since W, w' = u.w) 12 (by kernel_rfl) (by kernel_rfl) (Since.start W) ?_
              simp only [List.take_succ_cons, List.take_zero, List.drop_succ_cons, List.drop_zero]
              have y_c0 := Since.cell c0
              have y_c1 := Since.cell c1
              have y_c2 := Since.cell c2
              have y_p1 := Since.cell p1
              have y_g0 := Since.cell g0
              have y_f0 := Since.cell f0
              clear c0 c1 c2
              repeat (go_big_quiet_step ((fail)))
              refine wpQuiet_nil ?_
              rintro W ⟨⟨_, hb⟩, rfl⟩
              try dsimp only at hb ⊢
              replace p1 : W.cell? _ = _ := y_p1 ⟨W, hb⟩
              replace g0 : W.cell? _ = _ := y_g0 ⟨W, hb⟩
              replace f0 : W.cell? _ = _ := y_f0 ⟨W, hb⟩
              clear y_c0 y_c1 y_c2 y_p1 y_g0 y_f0
              replace hk := hk.below hb hk.lt
              replace hL := hL.trans (hb.mono (by first | exact Nat.le_refl _ | exact hL.size))
              replace hO := hO.below hb
              replace hRO := hRO.below hb
              replace hG := hG.below hb hG.lt
              replace hP := hP.below hb hP.lt
              replace hB := hB.trans (hb.mono hB.size)
              clear hb
              have c0 := hk.cell_ 0 rfl
              have c1 := hk.cell_ 1 rfl
              have c2 := hk.cell_ 2 rfl
              refine wpList_store_at rfl 3 _ _ rfl (.int .i64 (u0 + 1)) hG rfl rfl (by kernel_rfl) rfl HIL.out rfl ?_
              intro W5 hG5 hc5
              rw [intJ_set HIR.out, ← HBU.out] at hG5
              have hgrow : W.grownBy W5 (some g) := ⟨hc5.os, hc5.tape, hc5.output, hc5.size, fun k hk hne => hc5.block k hk fun e => hne (by rw [e])⟩
              have hO5 := own_kept hO hgrow fun b hb he => by injection he with he; exact own_ne_blk hO hG (by decide) b hb he
              have hRO5 := hRO.put HOG.out HRR.out (bump_len rr q1) hc5 hG5
              have hk5 := hk.chg1 hc5 (by omega)
              have hB5 := hB.trans (hc5.below1 hB.size (by omega))
              have hP5 := hP.chg1 hc5 HNPG.out
              have hS5 := intJ_slc hG5
              have hRI5 := hRO5.read (hO5.slc fun _ => rfl)
              rw [← HNX.out] at hRI5
              clear hgrow hO hRO hk hB hG hP hG5 hc5 p1 g0 f0 c0 c1 c2 hL hO5 hRO5
              try dsimp only [Act.put]
              obtain ⟨W, rfl⟩ : ∃ X : World, X = W5 := ⟨_, rfl⟩
              have hk := hk5
              have hB := hB5
              have hP := hP5
              clear hk5 hB5 hP5
              have T1 := hide (hS.on hB)
              have T2 := hide hS5
              have T3 := hide (hq.on hB)
              have T4 := hide hRI5
              have HBL : Hid ((bump rr q1).length = l.length) := by show _ = _; rw [bump_len, HRW.out.1]
              have HBN : Hid ((bump rr q1).length = rr.length) := bump_len rr q1
              have HBQ : Hid (∀ p ∈ bump rr q1, 0 ≤ p ∧ p ≤ 50) := fun p hp => by
                have := bump_q HRW.out.2 p hp
                push_cast at this
                omega
              have HFR := hide (fits_row (L := L) (K := K) HBL.out HBQ.out)
              obtain ⟨f, hf⟩ : ∃ f, fitsB L K l (bump rr q1) = f := ⟨_, rfl⟩
              have HFB := hide hf
              rw [hf] at HFR
              have p1 := hP.cell_ r HPA.out
              clear hS5 hRI5 hf
              have c0 := hk.cell_ 0 rfl
              have c1 := hk.cell_ 1 rfl
              have c2 := hk.cell_ 2 rfl
              cases f
              case false =>
                have HH2 : Hid (∀ j, j < r + 1 → j < most → ¬ HitG L K l (Q.drop i) R most j) := fun j hj hjm hh => by
                  rcases Nat.lt_or_ge j r with h | h
                  · exact HH.out j h hjm hh
                  · obtain rfl : j = r := by omega
                    obtain ⟨i', rest, g1, g2, _⟩ := hh
                    rw [HDR.out] at g1
                    injection g1 with g1 _
                    subst g1
                    rw [HRG.out] at g2
                    exact absurd (of_decide_eq_false HFR.out.symm) (fun h => h g2)
                go_wp2_with fail
                refine wp_region_quiet (C := fun w' => ∃ u : Since W, w' = u.w) (by kernel_rfl) (by kernel_rfl) (Since.start W) ?_
                dsimp only
                have y_c0 := Since.cell c0
                have y_c1 := Since.cell c1
                have y_c2 := Since.cell c2
                have y_p1 := Since.cell p1
                clear c0 c1 c2
                repeat (go_big_quiet_step ((go_at_call 59; exact Since.calls (refFits_q L K A c l (some ⟨g, 0, none⟩) cg rr.length (bump rr q1) _ (Slc.on T1.out (Since.h _)) (Slc.on T2.out (Since.h _)) HVK.out HBL.out HBN.out HFB.out))))
                refine wpQuiet_nil ?_
                rintro W ⟨⟨_, hb⟩, rfl⟩
                try dsimp only at hb ⊢
                replace p1 : W.cell? _ = _ := y_p1 ⟨W, hb⟩
                clear y_c0 y_c1 y_c2 y_p1
                replace hk := hk.below hb hk.lt
                replace hP := hP.below hb hP.lt
                replace hB := hB.trans (hb.mono hB.size)
                clear hb
                have c0 := hk.cell_ 0 rfl
                have c1 := hk.cell_ 1 rfl
                have c2 := hk.cell_ 2 rfl
                go_wp2_with fail
                go_roundw
                case rel => exact ⟨r + 1, by go_num, by omega, HH2, hk, hB⟩
                case measure => simp [intOf]; omega
              case true =>
                have hsz : sizeTo K l (bump (rowG l R r) q1) l.length ≤ L + K := by rw [HRG.out]; exact of_decide_eq_true HFR.out.symm
                have HBI3 := hide (next_inv HBI.out hq0 hsz)
                have HL3 := hide (next_len l R (k := r) (i := q1) hr1)
                obtain ⟨R3, hR3⟩ : ∃ X, X = nextG l R r q1 := ⟨_, rfl⟩
                have HSZ := hide hsz
                rw [← hR3] at T4 HBI3 HL3
                have HM3 : Hid (R3.length ≤ most) := by show _ ≤ _; rw [HL3.out]; omega
                have HR3i : Hid (R3.length ≤ i + 1) := by show _ ≤ _; rw [HL3.out]; omega
                have HHL3 : Hid (R3.length = hs2.length) := T4.out.len.symm
                obtain ⟨v2, hv2⟩ : ∃ v, packB L K l Q (i + 1) R3 most = v := ⟨_, rfl⟩
                have HPB := hide hv2
                have HHIT : Hid (v2 = true ↔ HitG L K l (Q.drop i) R most r) := by
                  show _ ↔ _
                  rw [← hv2, packB_iff, hR3]
                  constructor
                  · exact fun h => ⟨q1, _, HDR.out, HSZ.out, h⟩
                  · rintro ⟨i', rest, g1, _, g3⟩
                    rw [HDR.out] at g1
                    injection g1 with g1 g4
                    subst g1 g4
                    exact g3
                clear hsz hR3 hv2
                go_wp2_with fail
                refine wp_region_quiet (C := fun w' => ∃ u : Since W, w' = u.w) (by kernel_rfl) (by kernel_rfl) (Since.start W) ?_
                dsimp only
                have y_c0 := Since.cell c0
                have y_c1 := Since.cell c1
                have y_c2 := Since.cell c2
                have y_p1 := Since.cell p1
                clear c0 c1 c2
                repeat (go_big_quiet_step ((first | (go_at_call 59; exact Since.calls (refFits_q L K A c l (some ⟨g, 0, none⟩) cg rr.length (bump rr q1) _ (Slc.on T1.out (Since.h _)) (Slc.on T2.out (Since.h _)) HVK.out HBL.out HBN.out HFB.out)) | (go_at_call 67; exact Since.calls (HIH.out (some ⟨gp, 0, none⟩) co hs2.length hs2 R3 most _ (Slc.on T1.out (Since.h _)) (Slc.on T3.out (Since.h _)) (RowsIn.on T4.out (Since.h _)) HHL3.out HBI3.out HM3.out hm9 HR3i.out v2 HPB.out)))))
                refine wpQuiet_nil ?_
                rintro W ⟨⟨_, hb⟩, rfl⟩
                try dsimp only at hb ⊢
                replace p1 : W.cell? _ = _ := y_p1 ⟨W, hb⟩
                clear y_c0 y_c1 y_c2 y_p1
                replace hk := hk.below hb hk.lt
                replace hP := hP.below hb hP.lt
                replace hB := hB.trans (hb.mono hB.size)
                clear hb
                have c0 := hk.cell_ 0 rfl
                have c1 := hk.cell_ 1 rfl
                have c2 := hk.cell_ 2 rfl
                cases v2
                case true =>
                  have HN : Hid (v = true) := by
                    show _ = _
                    rw [← HVV.out]
                    exact HFI.out.2 ⟨r, hr1, hr2, HHIT.out.1 rfl⟩
                  go_wp2_with fail
                  go_ret
                  exact ⟨ret_bool HN.out.symm, hB⟩
                case false =>
                  have HH2 : Hid (∀ j, j < r + 1 → j < most → ¬ HitG L K l (Q.drop i) R most j) := fun j hj hjm hh => by
                    rcases Nat.lt_or_ge j r with h | h
                    · exact HH.out j h hjm hh
                    · obtain rfl : j = r := by omega
                      exact absurd (HHIT.out.2 hh) (by decide)
                  go_wp2_with fail
                  go_roundw
                  case rel => exact ⟨r + 1, by go_num, by omega, HH2, hk, hB⟩
                  case measure => simp [intOf]; omega
            · have hrl : r < R.length := by omega
              have hrne : ((r : Int) == (R.length : Int)) = false := by
                have h9 : (r : Int) ≠ (R.length : Int) := by omega
                simpa using h9
              obtain ⟨rr, hrr⟩ : ∃ x, R[r]? = some x := ⟨_, List.getElem?_eq_getElem hrl⟩
              have hrow : rowG l R r = rr := by unfold rowG; rw [if_pos hrl, List.getD_eq_getElem?_getD, hrr]; rfl
              have HRW : Hid (rr.length = l.length ∧ ∀ p ∈ rr, 0 ≤ p ∧ p ≤ (i : Int)) := by show _ ∧ _; rw [← hrow]; exact row_ok HBI.out r
              have HNX : Hid (nextG l R r q0 = R.set r (bump rr q0)) := by show _ = _; rw [next_row, if_pos hrl, hrow]
              have HRG := hide hrow
              obtain ⟨R2, hR2⟩ : ∃ X, X = R := ⟨_, rfl⟩
              have HNX : Hid (nextG l R r q0 = R2.set r (bump rr q0)) := by show _ = _; rw [hR2]; exact HNX.out
              rw [← hR2] at hRO hrr
              clear hR2 hrow hreq
              go_upto_region 13 with fail
              -- at region 13: hs2, R2 (RowsOwn hRO, Own hO), row r of it is rr = rowG l R r; HNG : nextG l R r q0 = R2.set r (bump rr q0)
              obtain ⟨g, cg, js, hog, hge, hG⟩ := hRO.at_ hrr
              obtain ⟨gp, jp, hAe, hgp, hP⟩ := own_blkF hO (by rintro rfl; simp at hog)
              obtain ⟨u0, hv⟩ : ∃ v, rr[q0]? = some v := ⟨_, List.getElem?_eq_getElem (by rw [HRW.out.1]; exact hq0)⟩
              have hvb := HRW.out.2 u0 (List.mem_of_getElem? hv)
              have HBU := hide (bump_atQ hv)
              have HVI := hide hv
              have HRR := hide hrr
              have HOG := hide hog
              have HIL : Hid (q0 < (intJ rr js).size) := intJ_lt (by rw [HRW.out.1]; exact hq0)
              have HIR : Hid (q0 < rr.length) := by show _ < _; rw [HRW.out.1]; exact hq0
              have HP0 : Hid ((hs2.flatMap Hd.enc ++ jp).toArray[r * 1 + 0]? = some (.slice (some ⟨g, 0, none⟩) rr.length cg)) := blkF_get (f := Hd.enc) (n := 1) (fun _ => rfl) hog (j := 0) rfl
              have HPA : Hid ((hs2.flatMap Hd.enc ++ jp).toArray[r]? = some (.slice (some ⟨g, 0, none⟩) rr.length cg)) := by have := HP0.out; rw [Nat.mul_one, Nat.add_zero] at this; exact this
              have hrh : (r : Int) < (hs2.length : Int) := by have := (List.getElem?_eq_some_iff.1 hog).1; omega
              have hqr : (q0 : Int) < (rr.length : Int) := by rw [HRW.out.1]; exact hqi
              have e6 : IntKind.i64.wrap (u0 + 1) = u0 + 1 := IntWalk.i64_in _ (by omega)
              have e7 : IntKind.i64.wrap ((i : Int) + 1) = ((i + 1 : Nat) : Int) := IntWalk.i64_in _ (by omega)
              have hnpg := hP.ne_ hG (by decide)
              have HNPG := hide hnpg
              obtain ⟨x, b1, o1, hx, hA1, hb1, f0⟩ := ints_at' (hq.below (hB.mono (Nat.le_refl _))) (k := i) (by rw [List.length_map]; exact hlt)
              obtain ⟨q1, rfl, hq1⟩ := queue_cellQ hx
              obtain rfl : q1 = q0 := by rw [HQ0.out] at hq1; injection hq1 with h; exact h.symm
              clear hog hv hrr hnpg hx hq1
              subst hAe
              have c0 := hk.cell_ 0 rfl
              have c1 := hk.cell_ 1 rfl
              have c2 := hk.cell_ 2 rfl
              have p1 := hP.cell_ r HPA.out
              have g0 := hG.cell_ q1 (intJ_get HVI.out)
              subst hA1
              go_upto_region 13 with fail
              go_wp2_with fail
              refine wp_region_quiet_tail (C := fun w' => ∃ u : Since W, w' = u.w) 12 (by kernel_rfl) (by kernel_rfl) (Since.start W) ?_
              simp only [List.take_succ_cons, List.take_zero, List.drop_succ_cons, List.drop_zero]
              have y_c0 := Since.cell c0
              have y_c1 := Since.cell c1
              have y_c2 := Since.cell c2
              have y_p1 := Since.cell p1
              have y_g0 := Since.cell g0
              have y_f0 := Since.cell f0
              clear c0 c1 c2
              repeat (go_big_quiet_step ((fail)))
              refine wpQuiet_nil ?_
              rintro W ⟨⟨_, hb⟩, rfl⟩
              try dsimp only at hb ⊢
              replace p1 : W.cell? _ = _ := y_p1 ⟨W, hb⟩
              replace g0 : W.cell? _ = _ := y_g0 ⟨W, hb⟩
              replace f0 : W.cell? _ = _ := y_f0 ⟨W, hb⟩
              clear y_c0 y_c1 y_c2 y_p1 y_g0 y_f0
              replace hk := hk.below hb hk.lt
              replace hL := hL.trans (hb.mono (by first | exact Nat.le_refl _ | exact hL.size))
              replace hO := hO.below hb
              replace hRO := hRO.below hb
              replace hG := hG.below hb hG.lt
              replace hP := hP.below hb hP.lt
              replace hB := hB.trans (hb.mono hB.size)
              clear hb
              have c0 := hk.cell_ 0 rfl
              have c1 := hk.cell_ 1 rfl
              have c2 := hk.cell_ 2 rfl
              refine wpList_store_at rfl 3 _ _ rfl (.int .i64 (u0 + 1)) hG rfl rfl (by kernel_rfl) rfl HIL.out rfl ?_
              intro W5 hG5 hc5
              rw [intJ_set HIR.out, ← HBU.out] at hG5
              have hgrow : W.grownBy W5 (some g) := ⟨hc5.os, hc5.tape, hc5.output, hc5.size, fun k hk hne => hc5.block k hk fun e => hne (by rw [e])⟩
              have hO5 := own_kept hO hgrow fun b hb he => by injection he with he; exact own_ne_blk hO hG (by decide) b hb he
              have hRO5 := hRO.put HOG.out HRR.out (bump_len rr q1) hc5 hG5
              have hk5 := hk.chg1 hc5 (by omega)
              have hB5 := hB.trans (hc5.below1 hB.size (by omega))
              have hP5 := hP.chg1 hc5 HNPG.out
              have hS5 := intJ_slc hG5
              have hRI5 := hRO5.read (hO5.slc fun _ => rfl)
              rw [← HNX.out] at hRI5
              clear hgrow hO hRO hk hB hG hP hG5 hc5 p1 g0 f0 c0 c1 c2 hL hO5 hRO5
              try dsimp only [Act.put]
              obtain ⟨W, rfl⟩ : ∃ X : World, X = W5 := ⟨_, rfl⟩
              have hk := hk5
              have hB := hB5
              have hP := hP5
              clear hk5 hB5 hP5
              have T1 := hide (hS.on hB)
              have T2 := hide hS5
              have T3 := hide (hq.on hB)
              have T4 := hide hRI5
              have HBL : Hid ((bump rr q1).length = l.length) := by show _ = _; rw [bump_len, HRW.out.1]
              have HBN : Hid ((bump rr q1).length = rr.length) := bump_len rr q1
              have HBQ : Hid (∀ p ∈ bump rr q1, 0 ≤ p ∧ p ≤ 50) := fun p hp => by
                have := bump_q HRW.out.2 p hp
                push_cast at this
                omega
              have HFR := hide (fits_row (L := L) (K := K) HBL.out HBQ.out)
              obtain ⟨f, hf⟩ : ∃ f, fitsB L K l (bump rr q1) = f := ⟨_, rfl⟩
              have HFB := hide hf
              rw [hf] at HFR
              have p1 := hP.cell_ r HPA.out
              clear hS5 hRI5 hf
              have c0 := hk.cell_ 0 rfl
              have c1 := hk.cell_ 1 rfl
              have c2 := hk.cell_ 2 rfl
              cases f
              case false =>
                have HH2 : Hid (∀ j, j < r + 1 → j < most → ¬ HitG L K l (Q.drop i) R most j) := fun j hj hjm hh => by
                  rcases Nat.lt_or_ge j r with h | h
                  · exact HH.out j h hjm hh
                  · obtain rfl : j = r := by omega
                    obtain ⟨i', rest, g1, g2, _⟩ := hh
                    rw [HDR.out] at g1
                    injection g1 with g1 _
                    subst g1
                    rw [HRG.out] at g2
                    exact absurd (of_decide_eq_false HFR.out.symm) (fun h => h g2)
                go_wp2_with fail
                refine wp_region_quiet (C := fun w' => ∃ u : Since W, w' = u.w) (by kernel_rfl) (by kernel_rfl) (Since.start W) ?_
                dsimp only
                have y_c0 := Since.cell c0
                have y_c1 := Since.cell c1
                have y_c2 := Since.cell c2
                have y_p1 := Since.cell p1
                clear c0 c1 c2
                repeat (go_big_quiet_step ((go_at_call 59; exact Since.calls (refFits_q L K A c l (some ⟨g, 0, none⟩) cg rr.length (bump rr q1) _ (Slc.on T1.out (Since.h _)) (Slc.on T2.out (Since.h _)) HVK.out HBL.out HBN.out HFB.out))))
                refine wpQuiet_nil ?_
                rintro W ⟨⟨_, hb⟩, rfl⟩
                try dsimp only at hb ⊢
                replace p1 : W.cell? _ = _ := y_p1 ⟨W, hb⟩
                clear y_c0 y_c1 y_c2 y_p1
                replace hk := hk.below hb hk.lt
                replace hP := hP.below hb hP.lt
                replace hB := hB.trans (hb.mono hB.size)
                clear hb
                have c0 := hk.cell_ 0 rfl
                have c1 := hk.cell_ 1 rfl
                have c2 := hk.cell_ 2 rfl
                go_wp2_with fail
                go_roundw
                case rel => exact ⟨r + 1, by go_num, by omega, HH2, hk, hB⟩
                case measure => simp [intOf]; omega
              case true =>
                have hsz : sizeTo K l (bump (rowG l R r) q1) l.length ≤ L + K := by rw [HRG.out]; exact of_decide_eq_true HFR.out.symm
                have HBI3 := hide (next_inv HBI.out hq0 hsz)
                have HL3 := hide (next_len l R (k := r) (i := q1) hr1)
                obtain ⟨R3, hR3⟩ : ∃ X, X = nextG l R r q1 := ⟨_, rfl⟩
                have HSZ := hide hsz
                rw [← hR3] at T4 HBI3 HL3
                have HM3 : Hid (R3.length ≤ most) := by show _ ≤ _; rw [HL3.out]; omega
                have HR3i : Hid (R3.length ≤ i + 1) := by show _ ≤ _; rw [HL3.out]; omega
                have HHL3 : Hid (R3.length = hs2.length) := T4.out.len.symm
                obtain ⟨v2, hv2⟩ : ∃ v, packB L K l Q (i + 1) R3 most = v := ⟨_, rfl⟩
                have HPB := hide hv2
                have HHIT : Hid (v2 = true ↔ HitG L K l (Q.drop i) R most r) := by
                  show _ ↔ _
                  rw [← hv2, packB_iff, hR3]
                  constructor
                  · exact fun h => ⟨q1, _, HDR.out, HSZ.out, h⟩
                  · rintro ⟨i', rest, g1, _, g3⟩
                    rw [HDR.out] at g1
                    injection g1 with g1 g4
                    subst g1 g4
                    exact g3
                clear hsz hR3 hv2
                go_wp2_with fail
                refine wp_region_quiet (C := fun w' => ∃ u : Since W, w' = u.w) (by kernel_rfl) (by kernel_rfl) (Since.start W) ?_
                dsimp only
                have y_c0 := Since.cell c0
                have y_c1 := Since.cell c1
                have y_c2 := Since.cell c2
                have y_p1 := Since.cell p1
                clear c0 c1 c2
                repeat (go_big_quiet_step ((first | (go_at_call 59; exact Since.calls (refFits_q L K A c l (some ⟨g, 0, none⟩) cg rr.length (bump rr q1) _ (Slc.on T1.out (Since.h _)) (Slc.on T2.out (Since.h _)) HVK.out HBL.out HBN.out HFB.out)) | (go_at_call 67; exact Since.calls (HIH.out (some ⟨gp, 0, none⟩) co hs2.length hs2 R3 most _ (Slc.on T1.out (Since.h _)) (Slc.on T3.out (Since.h _)) (RowsIn.on T4.out (Since.h _)) HHL3.out HBI3.out HM3.out hm9 HR3i.out v2 HPB.out)))))
                refine wpQuiet_nil ?_
                rintro W ⟨⟨_, hb⟩, rfl⟩
                try dsimp only at hb ⊢
                replace p1 : W.cell? _ = _ := y_p1 ⟨W, hb⟩
                clear y_c0 y_c1 y_c2 y_p1
                replace hk := hk.below hb hk.lt
                replace hP := hP.below hb hP.lt
                replace hB := hB.trans (hb.mono hB.size)
                clear hb
                have c0 := hk.cell_ 0 rfl
                have c1 := hk.cell_ 1 rfl
                have c2 := hk.cell_ 2 rfl
                cases v2
                case true =>
                  have HN : Hid (v = true) := by
                    show _ = _
                    rw [← HVV.out]
                    exact HFI.out.2 ⟨r, hr1, hr2, HHIT.out.1 rfl⟩
                  go_wp2_with fail
                  go_ret
                  exact ⟨ret_bool HN.out.symm, hB⟩
                case false =>
                  have HH2 : Hid (∀ j, j < r + 1 → j < most → ¬ HitG L K l (Q.drop i) R most j) := fun j hj hjm hh => by
                    rcases Nat.lt_or_ge j r with h | h
                    · exact HH.out j h hjm hh
                    · obtain rfl : j = r := by omega
                      exact absurd (HHIT.out.2 hh) (by decide)
                  go_wp2_with fail
                  go_roundw
                  case rel => exact ⟨r + 1, by go_num, by omega, HH2, hk, hB⟩
                  case measure => simp [intOf]; omega
      · have HN : Hid (v = false) := by
          show _ = _
          rw [← HVV.out]
          cases h : packB L K l Q i R most with
          | false => rfl
          | true =>
            obtain ⟨k, k1, k2, k3⟩ := HFI.out.1 h
            exact absurd k3 (HH.out k (by omega) k2)
        have hr2i : ¬ (r : Int) < (most : Int) := by omega
        go_wp2_with fail
        go_ret
        exact ⟨ret_bool HN.out.symm, hB⟩
    · have HN : Hid (v = false) := by
        show _ = _
        rw [← HVV.out]
        cases h : packB L K l Q i R most with
        | false => rfl
        | true =>
          obtain ⟨k, k1, k2, k3⟩ := HFI.out.1 h
          exact absurd k3 (HH.out k (by omega) k2)
      have hr1i : ¬ (r : Int) ≤ (R.length : Int) := by omega
      go_wp2_with fail
      go_ret
      exact ⟨ret_bool HN.out.symm, hB⟩
theorem wide_isD (L K : Int) (A : Option Addr) (c : Nat) (l : List Ask) (AB : Option Addr) (cB n : Nat) (bs : List Bt) (w : World) (hS : Slc Bt.enc 2 w w.heap.size AB bs) (hn : bs.length = n) {v : Bool} (h : wideP l.length bs = v) :
    Calls Tryd.prog 17 #[.agg #[.int .i64 L, .int .i64 K, .slice A l.length c], .slice AB n cB] w fun e w' => e = .returned (.bool v) ∧ Below w.heap.size w w' := by
  subst h hn; exact wide_any L K A c l AB cB bs w hS
theorem pack_all (L K : Int) (A : Option Addr) (c : Nat) (l : List Ask) (hv : VK L K l) (AQ : Option Addr) (cQ : Nat) (Q : List Nat) (hQ : ∀ x ∈ Q, x < l.length) (hQ9 : Q.length ≤ 50) : ∀ k i : Nat, i + k = Q.length → PackAt L K A c l AQ cQ Q i
  | 0, i, h => by
    obtain rfl : i = Q.length := by omega
    exact pack_end L K A c l hv AQ cQ Q
  | k + 1, i, h => pack_step L K A c l hv AQ cQ Q hQ hQ9 i (by omega) (pack_all L K A c l hv AQ cQ Q hQ hQ9 k (i + 1) (by omega))
theorem packs0 (L K : Int) (A : Option Addr) (c : Nat) (l : List Ask) (hv : VK L K l) (AQ : Option Addr) (cQ n : Nat) (Q : List Nat) (hQ : ∀ x ∈ Q, x < l.length) (hQ9 : Q.length ≤ 50) (hn : Q.length = n) (most : Nat) (hm : most ≤ 100) (w : World) (hS : Slc Ask.enc 2 w w.heap.size A l) (hq : Slc intEnc 1 w w.heap.size AQ (Q.map fun x : Nat => (x : Int))) {v : Bool} (h : packB L K l Q 0 [] most = v) :
    Calls Tryd.prog 67 #[.agg #[.int .i64 L, .int .i64 K, .slice A l.length c], .slice AQ n cQ, .int .i64 0, .slice none 0 0, .int .i64 most] w fun e w' => e = .returned (.bool v) ∧ Below w.heap.size w w' := by
  subst hn
  exact pack_all L K A c l hv AQ cQ Q hQ hQ9 Q.length 0 (by omega) none 0 0 [] [] most w hS hq (RowsIn.nil_ w) rfl ⟨fun _ h => (by cases h), fun _ h => (by cases h), fun _ h => (by cases h)⟩ (Nat.zero_le _) hm (Nat.le_refl _) v h
theorem pack0_iff {L K : Int} {l : List Ask} {Q : List Nat} {most : Nat} : packB L K l Q 0 [] most = true ↔ Packs (L + K) (Q.map (widthF K l)) most := by
  rw [packB_iff, List.drop_zero]
  exact fill_packs
theorem width_range (K : Int) (l : List Ask) : ∀ m : Nat, m ≤ l.length → ((List.range m).flatMap fun i => List.replicate (cntF l i) (widthF K l i)) = wdG K (l.take m)
  | 0, _ => rfl
  | m + 1, h => by
    have ha : l[m]? = some l[m] := List.getElem?_eq_getElem (by omega)
    rw [List.range_succ, List.flatMap_append, width_range K l m (by omega), wdG_snoc ha]
    congr 1
    rw [List.flatMap_cons, List.flatMap_nil, List.append_nil, cntF_at ha]
    unfold widthF
    rw [lenF_at ha]
theorem queue_width (K : Int) (l : List Ask) : ((queueG l).map (widthF K l)).Perm (wdG K l) := by
  have h := width_range K l l.length (Nat.le_refl _)
  rw [List.take_length] at h
  rw [← h]
  unfold queueG piecesG
  rw [List.map_flatMap]
  have e : (fun i => (List.replicate (cntF l i) i).map (widthF K l)) = fun i => List.replicate (cntF l i) (widthF K l i) := by
    funext i; rw [List.map_replicate]
  rw [e]
  exact (fall_perm l).flatMap_right _
theorem least_same {L K n n' E E' : Int} {l : List Ask} (h : LeastV L K l n E) (g : LeastV L K l n' E') : n = n' ∧ E = E' := by
  cases hv : validK L K l
  · obtain ⟨h1, h2⟩ := h.1 hv
    obtain ⟨g1, g2⟩ := g.1 hv
    omega
  · rcases Nat.lt_or_ge 10 (wdG K l).length with h10 | h10
    · obtain ⟨h1, h2⟩ := h.2.1 hv h10
      obtain ⟨g1, g2⟩ := g.2.1 hv h10
      omega
    · obtain ⟨h1, k, h2, h3⟩ := h.2.2 hv h10
      obtain ⟨g1, k', g2, g3⟩ := g.2.2 hv h10
      have := h3.one g3
      omega
theorem refKValidD_is (L K : Int) (A : Option Addr) (c : Nat) (l : List Ask) (w : World) (hS : Slc Ask.enc 2 w w.heap.size A l) {v : Bool} (h : validK L K l = v) :
    Calls Tryd.prog 26 #[.agg #[.int .i64 L, .int .i64 K, .slice A l.length c]] w fun e w' => e = .returned (.bool v) ∧ Below w.heap.size w w' := by
  subst h; exact refKValid_any L K A c l w hS
theorem few_isD (L K : Int) (A : Option Addr) (c : Nat) (l : List Ask) (most : Int) (w : World) (hS : Slc Ask.enc 2 w w.heap.size A l) (hl : l.length ≤ 1000) (hm : 0 ≤ most ∧ most ≤ 100) {v : Bool} (h : fewB most l = v) :
    Calls Tryd.prog 29 #[.agg #[.int .i64 L, .int .i64 K, .slice A l.length c], .int .i64 most] w fun e w' => e = .returned (.bool v) ∧ Below w.heap.size w w' := by
  subst h; exact few_any L K A c l most w hS hl hm
set_option maxRecDepth 100000 in
set_option maxHeartbeats 2000000 in
theorem refLeast_any (L K : Int) (A : Option Addr) (c : Nat) (l : List Ask) (w : World) (hS : Slc Ask.enc 2 w w.heap.size A l) :
    Calls Tryd.prog 31 #[.agg #[.int .i64 L, .int .i64 K, .slice A l.length c]] w (LeastPost L K l w) := by
  have hk := Blk.new w 24 #[.int .i64 L, .int .i64 K, .slice A l.length c]
  have hB := (Below.refl w.heap.size w).alloc (Nat.le_refl _) (.cells #[.int .i64 L, .int .i64 K, .slice A l.length c] 24)
  go_enter Tryd.func31, Tryd.ntmps31
  go_upto_region 1 with fail
  generalize w.alloc (.cells #[.int .i64 L, .int .i64 K, .slice A l.length c] 24) = W at *
  have c0 := hk.cell_ 0 rfl
  have c1 := hk.cell_ 1 rfl
  have c2 := hk.cell_ 2 rfl
  obtain ⟨u, hu⟩ : ∃ u, validK L K l = u := ⟨_, rfl⟩
  have HU := hide hu
  clear hu
  go_wp2_with fail
  refine (refKValidD_is L K A c l _ (hS.on hB) HU.out).mono ?_
  rintro e W ⟨rfl, hb⟩
  clear c0 c1 c2
  replace hk := hk.below hb hk.lt
  replace hB := hB.trans (hb.mono hB.size)
  clear hb
  have c0 := hk.cell_ 0 rfl
  have c1 := hk.cell_ 1 rfl
  have c2 := hk.cell_ 2 rfl
  cases u
  case false =>
    have HV : Hid (LeastV L K l 0 40) := ⟨fun _ => ⟨rfl, rfl⟩, (fun h => by rw [HU.out] at h; cases h), fun h => by rw [HU.out] at h; cases h⟩
    go_wp2_with fail
    go_ret2
    exact ⟨0, 40, rfl, hB, HV.out⟩
  have HV := hide (validK_iff.1 HU.out)
  go_wp2_with fail
  refine (pieces_any L K A c l _ (hS.on hB) HV.out).mono ?_
  rintro e W ⟨AF, kF, rfl, hb, hF⟩
  clear c0 c1 c2
  replace hk := hk.below hb hk.lt
  replace hB := hB.trans (hb.mono hB.size)
  clear hb
  have c0 := hk.cell_ 0 rfl
  have c1 := hk.cell_ 1 rfl
  have c2 := hk.cell_ 2 rfl
  have HQW := hide (queue_width K l)
  have HQM : Hid (∀ x ∈ queueG l, x < l.length) := fun x hx => queue_mem hx
  have HQL : Hid ((queueG l).length = (wdG K l).length) := by
    have := HQW.out.length_eq
    rw [List.length_map] at this
    exact this
  have HWL : Hid (∀ x ∈ wdG K l, x ≤ L + K) := fun x hx => (wdG_mem HV.out hx).2
  obtain ⟨Q, hQ⟩ : ∃ Q, queueG l = Q := ⟨_, rfl⟩
  rw [hQ] at hF HQW HQM HQL ⊢
  clear hQ
  obtain ⟨n, hn⟩ : ∃ n, Q.length = n := ⟨_, rfl⟩
  have HN := hide hn
  rw [hn] at HQL ⊢
  clear hn
  by_cases h10 : (10 : Int) < (n : Int)
  · have HE : Hid (LeastV L K l 0 11) := ⟨(fun h => by rw [HU.out] at h; cases h), fun _ _ => ⟨rfl, rfl⟩, fun _ h => by have := HQL.out; omega⟩
    go_wp2_with fail
    go_ret2
    exact ⟨0, 11, rfl, hB, HE.out⟩
  · have hn10 : n ≤ 10 := by omega
    have HNO : Hid (∀ m, m < 0 → ¬ Packs (L + K) (Q.map (widthF K l)) m) := fun m hm => absurd hm (Nat.not_lt_zero _)
    go_wp2_with fail
    clear c0 c1 c2
    go_loopw [5] (fun y W => ∃ (q : Nat), y = .int .i64 q ∧ q ≤ n ∧ Hid (∀ m, m < q → ¬ Packs (L + K) (Q.map (widthF K l)) m) ∧ Blk W w.heap.size 24 #[.int .i64 L, .int .i64 K, .slice A l.length c] ∧ Slc intEnc 1 W W.heap.size AF (Q.map fun x : Nat => (x : Int)) ∧ Below w.heap.size w W) (fun y _ => n + 1 - (intOf y).toNat)
    case atStart => exact ⟨0, rfl, Nat.zero_le _, HNO, hk, hF, hB⟩
    case round =>
      clear hk hB hF HNO
      obtain ⟨W, rfl⟩ : ∃ W : World, W = wr := ⟨_, rfl⟩
      obtain ⟨q, rfl, hq, HNO, hk, hF, hB⟩ := hrel
      obtain ⟨v, hv⟩ : ∃ v, packB L K l Q 0 [] q = v := ⟨_, rfl⟩
      have HPV := hide hv
      clear hv
      have c0 := hk.cell_ 0 rfl
      have c1 := hk.cell_ 1 rfl
      have c2 := hk.cell_ 2 rfl
      go_wp2_with fail
      refine (packs0 L K A c l HV.out AF kF n Q HQM.out (by have := HN.out; omega) HN.out q (by omega) _ (hS.on hB) hF HPV.out).mono ?_
      rintro e W ⟨rfl, hb⟩
      clear c0 c1 c2
      replace hk := hk.below hb hk.lt
      replace hF := Slc.on hF hb
      replace hB := hB.trans (hb.mono hB.size)
      clear hb
      have c0 := hk.cell_ 0 rfl
      have c1 := hk.cell_ 1 rfl
      have c2 := hk.cell_ 2 rfl
      cases v
      case true =>
        have HE : Hid (LeastV L K l q 0) := ⟨(fun h => by rw [HU.out] at h; cases h), (fun _ h => by have := HQL.out; omega), fun _ _ => ⟨rfl, q, rfl, by
          refine LeastPk.perm ?_ HQW.out
          exact ⟨pack0_iff.1 HPV.out, fun m hm => Nat.le_of_not_lt fun hlt => HNO.out m hlt hm⟩⟩⟩
        go_wp2_with fail
        go_ret2
        exact ⟨q, 0, rfl, hB, HE.out⟩
      case false =>
        have hno : ¬ Packs (L + K) (Q.map (widthF K l)) q := fun h => by
          have h1 := HPV.out
          rw [pack0_iff.2 h] at h1
          cases h1
        have hqn : q < n := by
          rcases Nat.lt_or_ge q n with h | h
          · exact h
          · exfalso
            obtain rfl : q = n := by omega
            refine hno ?_
            have h1 := (Packs.some_ HWL.out).perm HQW.out.symm
            rw [← HQL.out] at h1
            exact h1
        have HNO2 : Hid (∀ m, m < q + 1 → ¬ Packs (L + K) (Q.map (widthF K l)) m) := fun m hm => by
          rcases Nat.lt_or_ge m q with h | h
          · exact HNO.out m h
          · obtain rfl : m = q := by omega
            exact hno
        clear hno
        go_wp2_with fail
        go_roundw
        case rel => exact ⟨q + 1, by go_num, by omega, HNO2, hk, hF, hB⟩
        case measure => simp [intOf]; omega
set_option maxRecDepth 100000 in
set_option maxHeartbeats 2000000 in
theorem least_walk (L K : Int) (A : Option Addr) (c : Nat) (l : List Ask) (w : World) (hS : Slc Ask.enc 2 w w.heap.size A l) :
    Calls Tryd.prog 6 #[.agg #[.int .i64 L, .int .i64 K, .slice A l.length c]] w fun e w' => e = .returned (.bool true) ∧ Below w.heap.size w w' := by
  have hk := Blk.new w 24 #[.int .i64 L, .int .i64 K, .slice A l.length c]
  have hB := (Below.refl w.heap.size w).alloc (Nat.le_refl _) (.cells #[.int .i64 L, .int .i64 K, .slice A l.length c] 24)
  go_enter Tryd.func6, Tryd.ntmps6
  go_upto_region 1 with fail
  generalize w.alloc (.cells #[.int .i64 L, .int .i64 K, .slice A l.length c] 24) = W at *
  have c0 := hk.cell_ 0 rfl
  have c1 := hk.cell_ 1 rfl
  have c2 := hk.cell_ 2 rfl
  obtain ⟨v, hv⟩ : ∃ v, wideP l.length [] = v := ⟨_, rfl⟩
  have HV := hide hv
  go_wp2_with fail
  refine (wide_isD L K A c l none 0 0 [] _ Slc.nil_ rfl HV.out).mono ?_
  rintro e W ⟨rfl, hb⟩
  clear c0 c1 c2
  replace hk := hk.below hb hk.lt
  replace hB := hB.trans (hb.mono hB.size)
  clear hb
  have c0 := hk.cell_ 0 rfl
  have c1 := hk.cell_ 1 rfl
  have c2 := hk.cell_ 2 rfl
  cases v
  case true =>
    go_wp2_with fail
    refine (kawake_any _).mono ?_
    rintro e W ⟨rfl, hb⟩
    clear c0 c1 c2
    replace hk := hk.below hb hk.lt
    replace hB := hB.trans (hb.mono hB.size)
    clear hb
    have c0 := hk.cell_ 0 rfl
    have c1 := hk.cell_ 1 rfl
    have c2 := hk.cell_ 2 rfl
    go_wp2_with fail
    go_ret
    exact ⟨rfl, hB⟩
  have hl30 : l.length ≤ 30 := by
    unfold wideP at hv
    simp only [Bool.or_eq_false_iff, decide_eq_false_iff_not] at hv
    omega
  clear hv
  obtain ⟨u, hu⟩ : ∃ u, fewB 10 l = u := ⟨_, rfl⟩
  have HU := hide hu
  clear hu
  go_wp2_with fail
  refine (few_isD L K A c l 10 _ (hS.on hB) (by omega) ⟨by omega, by omega⟩ HU.out).mono ?_
  rintro e W ⟨rfl, hb⟩
  clear c0 c1 c2
  replace hk := hk.below hb hk.lt
  replace hB := hB.trans (hb.mono hB.size)
  clear hb
  have c0 := hk.cell_ 0 rfl
  have c1 := hk.cell_ 1 rfl
  have c2 := hk.cell_ 2 rfl
  cases u
  case false =>
    go_wp2_with fail
    refine (least_any L K A c l _ (hS.on hB)).mono ?_
    rintro e W ⟨n1, E1, rfl, hb, hV1⟩
    clear c0 c1 c2
    replace hk := hk.below hb hk.lt
    replace hB := hB.trans (hb.mono hB.size)
    clear hb
    have c0 := hk.cell_ 0 rfl
    have c1 := hk.cell_ 1 rfl
    have c2 := hk.cell_ 2 rfl
    go_wp2_with fail
    refine (refLeast_any L K A c l _ (hS.on hB)).mono ?_
    rintro e W ⟨n2, E2, rfl, hb, hV2⟩
    clear c0 c1 c2
    replace hk := hk.below hb hk.lt
    replace hB := hB.trans (hb.mono hB.size)
    clear hb
    have c0 := hk.cell_ 0 rfl
    have c1 := hk.cell_ 1 rfl
    have c2 := hk.cell_ 2 rfl
    obtain ⟨rfl, rfl⟩ := least_same hV1 hV2
    have g1 : (n1 == n1) = true := by simp
    have g2 : (E1 == E1) = true := by simp
    clear hV1 hV2
    go_wp2_with fail
    refine (kawake_any _).mono ?_
    rintro e W ⟨rfl, hb⟩
    clear c0 c1 c2
    replace hk := hk.below hb hk.lt
    replace hB := hB.trans (hb.mono hB.size)
    clear hb
    have c0 := hk.cell_ 0 rfl
    have c1 := hk.cell_ 1 rfl
    have c2 := hk.cell_ 2 rfl
    go_wp2_with fail
    go_ret
    exact ⟨rfl, hB⟩
  obtain ⟨u, hu⟩ : ∃ u, fewB 8 l = u := ⟨_, rfl⟩
  have HU8 := hide hu
  clear hu
  go_wp2_with fail
  refine (few_isD L K A c l 8 _ (hS.on hB) (by omega) ⟨by omega, by omega⟩ HU8.out).mono ?_
  rintro e W ⟨rfl, hb⟩
  clear c0 c1 c2
  replace hk := hk.below hb hk.lt
  replace hB := hB.trans (hb.mono hB.size)
  clear hb
  have c0 := hk.cell_ 0 rfl
  have c1 := hk.cell_ 1 rfl
  have c2 := hk.cell_ 2 rfl
  cases u
  case false =>
    go_wp2_with fail
    refine (kawake_any _).mono ?_
    rintro e W ⟨rfl, hb⟩
    clear c0 c1 c2
    replace hk := hk.below hb hk.lt
    replace hB := hB.trans (hb.mono hB.size)
    clear hb
    have c0 := hk.cell_ 0 rfl
    have c1 := hk.cell_ 1 rfl
    have c2 := hk.cell_ 2 rfl
    go_wp2_with fail
    go_ret
    exact ⟨rfl, hB⟩
  go_wp2_with fail
  refine (least_any L K A c l _ (hS.on hB)).mono ?_
  rintro e W ⟨n1, E1, rfl, hb, hV1⟩
  clear c0 c1 c2
  replace hk := hk.below hb hk.lt
  replace hB := hB.trans (hb.mono hB.size)
  clear hb
  have c0 := hk.cell_ 0 rfl
  have c1 := hk.cell_ 1 rfl
  have c2 := hk.cell_ 2 rfl
  go_wp2_with fail
  refine (refLeast_any L K A c l _ (hS.on hB)).mono ?_
  rintro e W ⟨n2, E2, rfl, hb, hV2⟩
  clear c0 c1 c2
  replace hk := hk.below hb hk.lt
  replace hB := hB.trans (hb.mono hB.size)
  clear hb
  have c0 := hk.cell_ 0 rfl
  have c1 := hk.cell_ 1 rfl
  have c2 := hk.cell_ 2 rfl
  obtain ⟨rfl, rfl⟩ := least_same hV1 hV2
  have g1 : (n1 == n1) = true := by simp
  have g2 : (E1 == E1) = true := by simp
  clear hV1 hV2
  go_wp2_with fail
  refine (kawake_any _).mono ?_
  rintro e W ⟨rfl, hb⟩
  clear c0 c1 c2
  replace hk := hk.below hb hk.lt
  replace hB := hB.trans (hb.mono hB.size)
  clear hb
  have c0 := hk.cell_ 0 rfl
  have c1 := hk.cell_ 1 rfl
  have c2 := hk.cell_ 2 rfl
  go_wp2_with fail
  go_ret
  exact ⟨rfl, hB⟩
end Go.Proofs.YtecaaimaeaocbaaDoor
