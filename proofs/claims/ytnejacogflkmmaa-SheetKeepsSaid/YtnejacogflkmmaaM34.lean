/- Parts of the proofs of this seat: OneLotP. Each part says what it proves; no condition beyond those stated there. -/
import Derived.Test.YtnejacogflkmmaaM33

/- What a Take hands out: plain. -/
namespace Go.Proofs.Ytnejacogflkmmaa
structure PieceAs (n : Need) (lot : Int) (p : Piece) : Prop where
  lot : p.lot = lot
  g : p.grade = n.grade
  c : p.colour = n.colour
  w : p.width = n.width
  l : p.length = n.length
  u : p.use = 0
theorem one_piece {s s' : SS} (h : Inv s) {n : Need} (hn : NeedOk n) {lot day : Int} {p : Piece} {kn : Kin} (hk : look s.lots lot = some kn) (hg : kn.grade = n.grade) (hc : kn.colour = n.colour) (hcut : cutOneF s n lot day = some (s', p)) : PieceAs n lot p ∧ s.last < p.id ∧ p.id = s'.last := by
  unfold cutOneF at hcut
  have hch := chosen_is (n := n) (lot := lot) (day := day) h.keyed
  cases hb : chosen s n lot day with
  | none => rw [hb] at hcut; cases hcut
  | some b =>
    rw [hb] at hcut hch
    injection hcut with hcut
    injection hcut with h1 h2
    obtain ⟨c1, c2, _⟩ := hch
    unfold candF at c2
    simp only [Bool.and_eq_true, decide_eq_true_eq] at c2
    obtain ⟨p0, hp0⟩ := Option.isSome_iff_exists.1 c2.2
    rw [hp0] at h1 h2
    have hbd := clear_bd hp0
    have hlb := look_mem h.ki c1
    have hl : b.lot = lot := c2.1.1.1
    have hkb := (h.it _ _ hlb).2.k
    rw [hl, hk] at hkb
    injection hkb with hkb
    have hcv := cut_inv h hn hlb hl c2.1.1.2 (p := p0) ⟨hbd.2.1, hbd.2.2.1⟩
    have hla := hcv.2.2.la
    refine ⟨?_, ?_, ?_⟩
    · rw [← h2]
      refine ⟨rfl, ?_, ?_, rfl, rfl, rfl⟩
      · show b.grade = n.grade; rw [← hg, hkb]
      · show b.colour = n.colour; rw [← hc, hkb]
    · rw [← h2]
      show s.last < (cutC s n b p0).last + 1
      omega
    · rw [← h2, ← h1]; rfl
theorem all_pieces {n : Need} (hn : NeedOk n) {lot day : Int} {kn : Kin} (hg : kn.grade = n.grade) (hc : kn.colour = n.colour) : ∀ {k : Nat} {s s' : SS} {l : List Piece}, Inv s → look s.lots lot = some kn → cutAllF n lot day k s = some (s', l) →
    l.length = k ∧ (∀ p ∈ l, PieceAs n lot p ∧ p.id ≤ s'.last) ∧ ∀ (i : Nat) a b, l[i]? = some a → l[i + 1]? = some b → a.id < b.id
  | 0, s, s', l, h, hk, hcut => by
    injection hcut with hcut
    injection hcut with h1 h2
    subst h2
    exact ⟨rfl, (fun p hp => by cases hp), fun i a b ha => by simp at ha⟩
  | k + 1, s, s', l, h, hk, hcut => by
    unfold cutAllF at hcut
    cases h1 : cutAllF n lot day k s with
    | none => rw [h1] at hcut; cases hcut
    | some q =>
      obtain ⟨s1, l1⟩ := q
      rw [h1] at hcut
      dsimp only at hcut
      obtain ⟨i1, e1⟩ := cutAll_inv hn h h1
      obtain ⟨a1, a2, a3⟩ := all_pieces hn hg hc h hk h1
      cases h2 : cutOneF s1 n lot day with
      | none => rw [h2] at hcut; cases hcut
      | some q2 =>
        obtain ⟨s2, p2⟩ := q2
        rw [h2] at hcut
        injection hcut with hcut
        injection hcut with h3 h4
        obtain ⟨b1, b2, b3⟩ := one_piece i1 hn (e1.lo _ _ hk) hg hc h2
        subst h3 h4
        refine ⟨by rw [List.length_append, a1]; rfl, fun p hp => ?_, fun i a b ha hb => ?_⟩
        · rcases List.mem_append.1 hp with hp | hp
          · have := a2 p hp
            exact ⟨this.1, by omega⟩
          · rw [List.mem_singleton.1 hp]; exact ⟨b1, by omega⟩
        · rcases Nat.lt_or_ge (i + 1) l1.length with h5 | h5
          · rw [List.getElem?_append_left (by omega)] at ha
            rw [List.getElem?_append_left h5] at hb
            exact a3 i a b ha hb
          · have hi := (List.getElem?_eq_some_iff.1 hb).1
            rw [List.length_append] at hi
            have hi' : i + 1 = l1.length := by simp at hi; omega
            rw [List.getElem?_append_right h5, hi', Nat.sub_self] at hb
            injection hb with hb
            rw [List.getElem?_append_left (by omega)] at ha
            have := (a2 a (List.mem_of_getElem? ha)).2
            rw [← hb]; omega
theorem lot_ok {s : SS} {n : Need} {lot : Int} (h : lot ∈ ordF s n) : ∃ kn, look s.lots lot = some kn ∧ kn.grade = n.grade ∧ kn.colour = n.colour := by
  have h1 := (sortK_perm (madeF s) (lotsOfF s n)).subset h
  unfold lotsOfF at h1
  have h2 := (List.mem_filter.1 h1).2
  unfold lotOk at h2
  cases e : look s.lots lot with
  | none => rw [e] at h2; cases h2
  | some kn =>
    rw [e] at h2
    simp only [Bool.and_eq_true, decide_eq_true_eq] at h2
    exact ⟨kn, rfl, h2.1, h2.2⟩
theorem from_none {s : SS} {n : Need} {day : Int} : ∀ {ls : List Int}, lotsF s n day ls = [] → takeFrom s n day ls = none
  | [], _ => rfl
  | lot :: r, h => by
    unfold lotsF at h
    rw [List.filter_cons] at h
    cases hc : cutAllF n lot day n.count.toNat s with
    | some q => rw [hc] at h; rw [if_pos (by rfl)] at h; cases h
    | none =>
      rw [hc, if_neg (by simp)] at h
      show (match cutAllF n lot day n.count.toNat s with | some q => some q | none => takeFrom s n day r) = none
      rw [hc]
      exact from_none (ls := r) h
theorem from_some {s : SS} {n : Need} {day : Int} {a : Int} {t : List Int} : ∀ {ls : List Int}, lotsF s n day ls = a :: t → a ∈ ls ∧ ∃ q, takeFrom s n day ls = some q ∧ cutAllF n a day n.count.toNat s = some q
  | [], h => by cases h
  | lot :: r, h => by
    unfold lotsF at h
    rw [List.filter_cons] at h
    cases hc : cutAllF n lot day n.count.toNat s with
    | some q =>
      rw [hc, if_pos (by rfl)] at h
      injection h with h1 h2
      subst h1
      refine ⟨List.mem_cons_self .., q, ?_, hc⟩
      show (match cutAllF n lot day n.count.toNat s with | some q => some q | none => takeFrom s n day r) = _
      rw [hc]
    | none =>
      rw [hc, if_neg (by simp)] at h
      obtain ⟨h1, q, h2, h3⟩ := from_some (ls := r) h
      refine ⟨List.mem_cons_of_mem _ h1, q, ?_, h3⟩
      show (match cutAllF n lot day n.count.toNat s with | some q => some q | none => takeFrom s n day r) = _
      rw [hc]
      exact h2
/-- what a Take hands out, where it is valid and Lots names a lot -/
theorem take_one {s : SS} (h : Inv s) {n : Need} {day a : Int} {t : List Int} (hv : needB n day = true) (hl : lotsL s n day = a :: t) :
    takeE s n day = 0 ∧ ((takeL s n day).length : Int) = n.count ∧ (∀ p ∈ takeL s n day, PieceAs n a p) ∧ ∀ (i : Nat) x y, (takeL s n day)[i]? = some x → (takeL s n day)[i + 1]? = some y → x.id < y.id := by
  have hn := (needB_ok hv).1
  unfold lotsL at hl
  rw [hv] at hl
  obtain ⟨h1, q, h2, h3⟩ := from_some hl
  obtain ⟨s', l⟩ := q
  obtain ⟨kn, k1, k2, k3⟩ := lot_ok h1
  obtain ⟨a1, a2, a3⟩ := all_pieces hn k2 k3 h k1 h3
  have hF : takeF s n day = some (s', l) := h2
  unfold takeE takeL
  rw [hv, hF]
  refine ⟨rfl, ?_, fun p hp => (a2 p hp).1, a3⟩
  show (l.length : Int) = n.count
  rw [a1]
  have := hn.c
  omega
theorem take_short {s : SS} {n : Need} {day : Int} (hv : needB n day = true) (hl : lotsL s n day = []) : takeE s n day = 24 ∧ takeL s n day = [] := by
  unfold lotsL at hl
  rw [hv] at hl
  have hF : takeF s n day = none := from_none hl
  unfold takeE takeL
  rw [hv, hF]; exact ⟨rfl, rfl⟩
theorem take_bad {s : SS} {n : Need} {day : Int} (hv : needB n day = false) : takeE s n day = 2 ∧ takeL s n day = [] ∧ lotsL s n day = [] ∧ lotsE n day = 2 := by
  unfold takeE takeL lotsL lotsE; rw [hv]; exact ⟨rfl, rfl, rfl, rfl⟩
end Go.Proofs.Ytnejacogflkmmaa
