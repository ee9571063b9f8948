/- Trees of cuts: where their pieces lie, the plain laws. -/
import Derived.Test.YtecaaimaeaocbaaDoorKTreeP
import Derived.Test.YtecaaimaeaocbaaDoorKClashP
namespace Go.Proofs.YtecaaimaeaocbaaDoor
open Go
abbrev Kds := List (Int × Int)
def noRoom (w h : Int) : Bool := decide (w < 1) || decide (h < 1)
/-- a piece has no kind, or a rectangle is gone -/
def goneT (K : Int) (ks : Kds) : Tree → Int → Int → Bool
  | .node op n _ [a, b], w, h => noRoom w h || (if op = 2 then goneT K ks a w n || goneT K ks b w (h - n - K) else goneT K ks a n h || goneT K ks b (w - n - K) h)
  | .node op _ pc _, w, h => noRoom w h || (decide (op = 1) && decide ((ks.length : Int) ≤ pc - 97))
/-- a piece is too great for its rectangle -/
def smallT (K : Int) (ks : Kds) : Tree → Int → Int → Bool
  | .node op n _ [a, b], w, h => if op = 2 then smallT K ks a w n || smallT K ks b w (h - n - K) else smallT K ks a n h || smallT K ks b (w - n - K) h
  | .node op _ pc _, w, h => decide (op = 1) && match ks[(pc - 97).toNat]? with
    | some q => decide (w < q.1) || decide (h < q.2)
    | none => false
/-- where the pieces lie -/
def placesT (K : Int) (ks : Kds) : Tree → Int → Int → Int → Int → List Pl
  | .node op n _ [a, b], x, y, w, h => if op = 2 then placesT K ks a x y w n ++ placesT K ks b x (y + n + K) w (h - n - K) else placesT K ks a x y n h ++ placesT K ks b (x + n + K) y (w - n - K) h
  | .node op _ pc _, x, y, _, _ => if op = 1 then match ks[(pc - 97).toNat]? with
    | some q => [⟨pc, x, y, q.1, q.2⟩]
    | none => [] else []
/-- the letters of the pieces -/
def pcsT : Tree → List Int
  | .node _ _ _ [a, b] => pcsT a ++ pcsT b
  | .node op _ pc _ => if op = 1 then [pc] else []
theorem noRoom_false {w h : Int} : noRoom w h = false ↔ 1 ≤ w ∧ 1 ≤ h := by
  unfold noRoom
  rw [Bool.or_eq_false_iff, decide_eq_false_iff_not, decide_eq_false_iff_not]; omega
theorem gone_room {K : Int} {ks : Kds} {t : Tree} (hr : Right t) {w h : Int} (hg : goneT K ks t w h = false) : 1 ≤ w ∧ 1 ≤ h := by
  cases hr with
  | waste => simp only [goneT, Bool.or_eq_false_iff] at hg; exact noRoom_false.1 hg.1
  | piece pc h1 h2 => simp only [goneT, Bool.or_eq_false_iff] at hg; exact noRoom_false.1 hg.1
  | cut op n a b => simp only [goneT, Bool.or_eq_false_iff] at hg; exact noRoom_false.1 hg.1
/-- the places lie in the rectangle, and have the measures of their kind -/
theorem places_in {K : Int} (hK : 0 ≤ K) {ks : Kds} {t : Tree} (hr : Right t) : ∀ {x y w h : Int}, goneT K ks t w h = false → smallT K ks t w h = false → ∀ p ∈ placesT K ks t x y w h,
    (x ≤ p.x ∧ p.x + p.w ≤ x + w) ∧ (y ≤ p.y ∧ p.y + p.h ≤ y + h) ∧ ∃ k : Nat, p.pc = 97 + k ∧ ks[k]? = some (p.w, p.h) := by
  induction hr with
  | waste => intro x y w h _ _ p hp; simp [placesT] at hp
  | piece pc h1 h2 =>
    intro x y w h hg hs p hp
    simp only [placesT, smallT, decide_true, Bool.true_and, if_true] at hp hs
    cases hq : ks[((pc : Int) - 97).toNat]? with
    | none => rw [hq] at hp; cases hp
    | some q =>
      rw [hq] at hp hs
      simp only [Bool.or_eq_false_iff, decide_eq_false_iff_not] at hs
      rw [List.mem_singleton] at hp
      subst hp
      dsimp only
      exact ⟨⟨by omega, by omega⟩, ⟨by omega, by omega⟩, ((pc : Int) - 97).toNat, by omega, hq⟩
  | cut op n a b hop h1 h2 ra rb iha ihb =>
    intro x y w h hg hs p hp
    simp only [goneT, Bool.or_eq_false_iff] at hg
    simp only [placesT] at hp
    simp only [smallT] at hs
    rcases hop with rfl | rfl
    · rw [if_pos rfl, Bool.or_eq_false_iff] at hg hs
      rw [if_pos rfl] at hp
      have g1 := gone_room ra hg.2.1
      have g2 := gone_room rb hg.2.2
      rcases List.mem_append.1 hp with hp | hp
      · obtain ⟨i1, i2, i3⟩ := iha hg.2.1 hs.1 p hp
        exact ⟨i1, ⟨i2.1, by omega⟩, i3⟩
      · obtain ⟨i1, i2, i3⟩ := ihb hg.2.2 hs.2 p hp
        exact ⟨i1, ⟨by omega, by omega⟩, i3⟩
    · rw [if_neg (by decide), Bool.or_eq_false_iff] at hg hs
      rw [if_neg (by decide)] at hp
      have g1 := gone_room ra hg.2.1
      have g2 := gone_room rb hg.2.2
      rcases List.mem_append.1 hp with hp | hp
      · obtain ⟨i1, i2, i3⟩ := iha hg.2.1 hs.1 p hp
        exact ⟨⟨i1.1, by omega⟩, i2, i3⟩
      · obtain ⟨i1, i2, i3⟩ := ihb hg.2.2 hs.2 p hp
        exact ⟨⟨by omega, by omega⟩, i2, i3⟩
/-- the places are apart -/
theorem places_apart {K : Int} (hK : 0 ≤ K) {ks : Kds} {t : Tree} (hr : Right t) : ∀ {x y w h : Int}, goneT K ks t w h = false → smallT K ks t w h = false → (placesT K ks t x y w h).Pairwise fun p q => apB K p q = true := by
  induction hr with
  | waste => intro x y w h _ _; simp [placesT]
  | piece pc h1 h2 =>
    intro x y w h _ _
    simp only [placesT, if_true]
    cases ks[((pc : Int) - 97).toNat]? with
    | none => exact List.Pairwise.nil
    | some q => exact List.pairwise_singleton _ _
  | cut op n a b hop h1 h2 ra rb iha ihb =>
    intro x y w h hg hs
    simp only [goneT, Bool.or_eq_false_iff] at hg
    simp only [placesT]
    simp only [smallT] at hs
    rcases hop with rfl | rfl
    · rw [if_pos rfl, Bool.or_eq_false_iff] at hg hs
      rw [if_pos rfl, List.pairwise_append]
      refine ⟨iha hg.2.1 hs.1, ihb hg.2.2 hs.2, fun p hp q hq => ?_⟩
      have i1 := (places_in hK ra hg.2.1 hs.1 p hp).2.1
      have i2 := (places_in hK rb hg.2.2 hs.2 q hq).2.1
      unfold apB
      simp only [Bool.or_eq_true, decide_eq_true_eq]
      omega
    · rw [if_neg (by decide), Bool.or_eq_false_iff] at hg hs
      rw [if_neg (by decide), List.pairwise_append]
      refine ⟨iha hg.2.1 hs.1, ihb hg.2.2 hs.2, fun p hp q hq => ?_⟩
      have i1 := (places_in hK ra hg.2.1 hs.1 p hp).1
      have i2 := (places_in hK rb hg.2.2 hs.2 q hq).1
      unfold apB
      simp only [Bool.or_eq_true, decide_eq_true_eq]
      omega
/-- the letters of the places are those of the pieces -/
theorem places_pcs {K : Int} {ks : Kds} {t : Tree} (hr : Right t) : ∀ {x y w h : Int}, goneT K ks t w h = false → (placesT K ks t x y w h).map Pl.pc = pcsT t ∧ ∀ p ∈ pcsT t, 97 ≤ p ∧ p - 97 < ks.length := by
  induction hr with
  | waste => intro x y w h _; simp [placesT, pcsT]
  | piece pc h1 h2 =>
    intro x y w h hg
    simp only [goneT, Bool.or_eq_false_iff, decide_true, Bool.true_and, decide_eq_false_iff_not] at hg
    have hlt : ((pc : Int) - 97).toNat < ks.length := by omega
    simp only [placesT, pcsT, if_true]
    rw [List.getElem?_eq_getElem hlt]
    exact ⟨rfl, fun p hp => by rw [List.mem_singleton] at hp; subst hp; omega⟩
  | cut op n a b hop h1 h2 ra rb iha ihb =>
    intro x y w h hg
    simp only [goneT, Bool.or_eq_false_iff] at hg
    simp only [placesT, pcsT]
    rcases hop with rfl | rfl
    · rw [if_pos rfl, Bool.or_eq_false_iff] at hg
      rw [if_pos rfl, List.map_append, (iha hg.2.1).1, (ihb hg.2.2).1]
      exact ⟨rfl, fun p hp => (List.mem_append.1 hp).elim ((iha (x := x) (y := y) hg.2.1).2 p) ((ihb (x := x) (y := y) hg.2.2).2 p)⟩
    · rw [if_neg (by decide), Bool.or_eq_false_iff] at hg
      rw [if_neg (by decide), List.map_append, (iha hg.2.1).1, (ihb hg.2.2).1]
      exact ⟨rfl, fun p hp => (List.mem_append.1 hp).elim ((iha (x := x) (y := y) hg.2.1).2 p) ((ihb (x := x) (y := y) hg.2.2).2 p)⟩
/-- the count of the letters: one more at each piece's kind -/
def addP (L : List Int) (ps : List Int) : List Int := ps.foldl (fun L p => L.set (p - 97).toNat (L.getD (p - 97).toNat 0 + 1)) L
theorem addP_app (L ps qs : List Int) : addP L (ps ++ qs) = addP (addP L ps) qs := by unfold addP; rw [List.foldl_append]
theorem addP_len : ∀ (ps L : List Int), (addP L ps).length = L.length
  | [], _ => rfl
  | p :: ps, L => by
    have := addP_len ps (L.set (p - 97).toNat (L.getD (p - 97).toNat 0 + 1))
    rw [List.length_set] at this
    exact this
theorem addP_get : ∀ (ps L : List Int), (∀ p ∈ ps, 97 ≤ p ∧ p - 97 < L.length) → ∀ k, k < L.length → (addP L ps).getD k 0 = L.getD k 0 + ps.count ((97 : Int) + k)
  | [], L, _, k, _ => by simp [addP]
  | p :: ps, L, h, k, hk => by
    have hp := h p (by simp)
    have ih := addP_get ps (L.set (p - 97).toNat (L.getD (p - 97).toNat 0 + 1)) (fun q hq => by rw [List.length_set]; exact h q (by simp [hq])) k (by rw [List.length_set]; exact hk)
    show (addP (L.set (p - 97).toNat (L.getD (p - 97).toNat 0 + 1)) ps).getD k 0 = _
    rw [ih, List.count_cons]
    by_cases e : (p - 97).toNat = k
    · have e2 : p = 97 + (k : Int) := by omega
      have e3 : (L.set (p - 97).toNat (L.getD (p - 97).toNat 0 + 1)).getD k 0 = L.getD k 0 + 1 := by
        rw [e, List.getD_eq_getElem?_getD, List.getElem?_set_self hk]; rfl
      rw [e3, e2]
      simp only [beq_self_eq_true, if_true]
      omega
    · have e2 : ¬ p = 97 + (k : Int) := by omega
      have e3 : (L.set (p - 97).toNat (L.getD (p - 97).toNat 0 + 1)).getD k 0 = L.getD k 0 := by
        rw [List.getD_eq_getElem?_getD, List.getElem?_set_ne e, List.getD_eq_getElem?_getD]
      have e4 : (p == 97 + (k : Int)) = false := by rw [beq_eq_false_iff_ne]; exact e2
      rw [e3, e4]
      simp only [Bool.false_eq_true, if_false, Nat.add_zero]
end Go.Proofs.YtecaaimaeaocbaaDoor
