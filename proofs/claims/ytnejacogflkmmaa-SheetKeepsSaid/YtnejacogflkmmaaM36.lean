/- Parts of the proofs of this seat: KeepsP. Each part says what it proves; no condition beyond those stated there. -/
import Derived.Test.YtnejacogflkmmaaM34

/- What Lots names behind a Take: plain. -/
namespace Go.Proofs.Ytnejacogflkmmaa
theorem add_lots (s : SS) (x : Sheet) (u m : Int) : (addF s x u m).lots = s.lots := by unfold addF; split <;> rfl
theorem rest_lots (s : SS) (x : Sheet) : (restF s x).lots = s.lots := by unfold restF; split <;> rfl
theorem cut_lots (s : SS) (n : Need) (lot : Int) (b : Sheet) (q : Int) : (cutD (cutC s n b q) n lot b).lots = s.lots := by
  have h1 : (cutA s b q).lots = s.lots := add_lots _ _ _ _
  have h2 : (cutB s n b q).lots = (cutA s b q).lots := add_lots _ _ _ _
  have h3 : (cutC s n b q).lots = (cutB s n b q).lots := rest_lots _ _
  exact h3.trans (h2.trans h1)
theorem one_lots {s s' : SS} {n : Need} {lot day : Int} {p : Piece} (h : cutOneF s n lot day = some (s', p)) : s'.lots = s.lots := by
  unfold cutOneF at h
  cases hb : chosen s n lot day with
  | none => rw [hb] at h; cases h
  | some b =>
    rw [hb] at h
    injection h with h
    injection h with h1 h2
    rw [← h1]; exact cut_lots _ _ _ _ _
theorem all_lots {n : Need} {lot day : Int} : ∀ {k : Nat} {s s' : SS} {l : List Piece}, cutAllF n lot day k s = some (s', l) → s'.lots = s.lots
  | 0, s, s', l, h => by
    injection h with h
    injection h with h1 h2
    rw [← h1]
  | k + 1, s, s', l, h => by
    unfold cutAllF at h
    cases h1 : cutAllF n lot day k s with
    | none => rw [h1] at h; cases h
    | some q =>
      obtain ⟨s1, l1⟩ := q
      rw [h1] at h
      dsimp only at h
      cases h2 : cutOneF s1 n lot day with
      | none => rw [h2] at h; cases h
      | some q2 =>
        obtain ⟨s2, p2⟩ := q2
        rw [h2] at h
        injection h with h
        injection h with h3 h4
        rw [← h3]
        exact (one_lots h2).trans (all_lots h1)
theorem ord_lots {s t : SS} (h : t.lots = s.lots) (n : Need) : ordF t n = ordF s n := by
  have h1 : madeF t = madeF s := by funext l; unfold madeF; rw [h]
  have h2 : lotsOfF t n = lotsOfF s n := by
    have h3 : lotOk t n = lotOk s n := by funext l; unfold lotOk; rw [h]
    unfold lotsOfF; rw [h, h3]
  unfold ordF; rw [h1, h2]
theorem left_in {s t : SS} (h : Inv s) {n : Need} {day : Int} {l : List Piece} (hv : needB n day = true) (hq : takeF s n day = some (t, l)) : ∀ b ∈ lotsL t n day, b ∈ lotsL s n day := fun b hb => by
  have hn := (needB_ok hv).1
  obtain ⟨a, ha, hc⟩ := takeFrom_some hq
  unfold lotsL at hb ⊢
  rw [hv] at hb ⊢
  have hb' : b ∈ lotsF t n day (ordF t n) := hb
  show b ∈ lotsF s n day (ordF s n)
  rw [ord_lots (all_lots hc)] at hb'
  unfold lotsF at hb' ⊢
  rw [List.mem_filter] at hb' ⊢
  refine ⟨hb'.1, ?_⟩
  by_cases hba : b = a
  · rw [hba, hc]; rfl
  · have := take_left h hn hc hba (j := n.count.toNat)
    rw [← this]; exact hb'.2
theorem take_err {s : SS} {n : Need} {day : Int} (hv : needB n day = true) : (takeF s n day = none ∧ takeE s n day = 24 ∧ takeS s n day = s ∧ takeL s n day = []) ∨ ∃ t l, takeF s n day = some (t, l) ∧ takeE s n day = 0 ∧ takeS s n day = t ∧ takeL s n day = l := by
  unfold takeE takeS takeL
  rw [hv]
  cases hq : takeF s n day with
  | none => exact .inl ⟨rfl, rfl, rfl, rfl⟩
  | some q => exact .inr ⟨q.1, q.2, rfl, rfl, rfl, rfl⟩
theorem any_take {L : List Int} {k : Nat} {x v : Int} (h : L[k]? = some x) : (L.take (k + 1)).any (fun y => decide (y = v)) = ((L.take k).any (fun y => decide (y = v)) || decide (x = v)) := by
  rw [List.take_add_one, h, Option.toList_some, List.any_append]; simp
end Go.Proofs.Ytnejacogflkmmaa
