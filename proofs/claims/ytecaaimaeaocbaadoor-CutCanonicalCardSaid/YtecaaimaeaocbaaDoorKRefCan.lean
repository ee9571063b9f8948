/- Canonical of the reference: the walk. -/
import Derived.Test.YtecaaimaeaocbaaDoorKTogW
namespace Go.Proofs.YtecaaimaeaocbaaDoor
open Go Go.RowKit
theorem shaped_n_ok {L K : Int} {l : List Ask} {pl : List Bat} (h : chkE L K l pl = 0) : pl.length ≤ 1000 ∧ l.length ≤ 1000 ∧ ∀ b ∈ pl, (1 ≤ b.t ∧ b.t ≤ 1000) ∧ b.ps.length = l.length := by
  obtain ⟨h1, h2, h3⟩ := chk_zero h
  refine ⟨shaped_few h2, by have := (validK_iff.1 h1).few; omega, fun b hb => ?_⟩
  obtain ⟨i, hi⟩ := List.getElem?_of_mem hb
  exact shaped_at h2 hi
set_option maxRecDepth 100000 in
set_option maxHeartbeats 1000000 in
theorem refCanon_any (L K : Int) (A : Option Addr) (c : Nat) (l : List Ask) (AB : Option Addr) (cB : Nat) (bs : List Bt) (pl : List Bat) (w : World) (hS : Slc Ask.enc 2 w w.heap.size A l) (hP : PlanAt w AB bs pl) (hl : pl.length ≤ 100000) :
    Calls Tryd.prog 54 #[.agg #[.int .i64 L, .int .i64 K, .slice A l.length c], .slice AB pl.length cB] w (ApiCanonPost L K l pl w) := by
  have hk := Blk.new w 24 #[.int .i64 L, .int .i64 K, .slice A l.length c]
  have hB := (Below.refl w.heap.size w).alloc (Nat.le_refl _) (.cells #[.int .i64 L, .int .i64 K, .slice A l.length c] 24)
  go_enter Tryd.func54, Tryd.ntmps54
  go_upto_region 1 with fail
  generalize w.alloc (.cells #[.int .i64 L, .int .i64 K, .slice A l.length c] 24) = W at *
  have c0 := hk.cell_ 0 rfl
  have c1 := hk.cell_ 1 rfl
  have c2 := hk.cell_ 2 rfl
  obtain ⟨E, hE⟩ : ∃ E, chkE L K l pl = E := ⟨_, rfl⟩
  have HE := hide hE
  clear hE
  go_wp2_with fail
  refine (refCheck_is L K A c l AB cB bs pl _ (hS.on hB) (hP.on hB) hl HE.out).mono ?_
  rintro e W ⟨rfl, hb⟩
  clear c0 c1 c2
  replace hk := hk.below hb hk.lt
  replace hB := hB.trans (hb.mono hB.size)
  clear hb
  have c0 := hk.cell_ 0 rfl
  have c1 := hk.cell_ 1 rfl
  have c2 := hk.cell_ 2 rfl
  by_cases h0 : ¬ E = 0
  · have HC : Hid (cnE L K l pl = E) := by show _ = _; unfold cnE; rw [HE.out, if_neg h0]
    have HP : Hid (cnP L K l pl = []) := by show _ = _; unfold cnP; rw [HC.out, if_neg h0]
    have hne : (E != 0) = true := by simp [h0]
    clear h0
    go_wp2_with fail
    go_ret2
    exact ⟨none, 0, [], by rw [HC.out, HP.out]; rfl, hB, by rw [HP.out]; exact PlanAt.nil_ _⟩
  obtain rfl : E = 0 := Classical.not_not.1 h0
  clear h0
  have HO := hide (shaped_n_ok HE.out)
  go_wp2_with fail
  refine (together_any AB cB bs pl l.length _ (hP.on hB) HO.out.1 HO.out.2.1 HO.out.2.2).mono ?_
  rintro e W ⟨A2, k2, os, rfl, hb2, hQ⟩
  replace hB := hB.trans (hb2.mono hB.size)
  have hfl : (foldB pl).length ≤ 1000 := Nat.le_trans (foldB_len pl) HO.out.1
  clear hk hb2 c0 c1 c2
  obtain ⟨P, hPe⟩ : ∃ P, foldB pl = P := ⟨_, rfl⟩
  rw [hPe] at hQ hfl ⊢
  have HPE := hide hPe
  clear hPe
  go_wp2_with fail
  go_loopw [8] (fun y W => ∃ (i : Nat), y = .int .i64 i ∧ i ≤ P.length ∧ Hid ((P.all fun b => decide (b.t ≤ 1000)) = (P.drop i).all fun b => decide (b.t ≤ 1000)) ∧ PlanAt W A2 os P ∧ Below w.heap.size w W) (fun y _ => P.length - (intOf y).toNat)
  case atStart => exact ⟨0, rfl, Nat.zero_le _, hide rfl, hQ, hB⟩
  case round =>
    clear hQ hB
    obtain ⟨W, rfl⟩ : ∃ W : World, W = wr := ⟨_, rfl⟩
    obtain ⟨i, rfl, hi, HA, hQ, hB⟩ := hrel
    by_cases hlt : i < P.length
    · obtain ⟨p, b, off, A', c', hp, hA, hbl, d0, d1, hQ0⟩ := plan_at hQ hlt
      have hii : (i : Int) < (P.length : Int) := by omega
      have HX := hide (all_drop (f := fun b : Bat => decide (b.t ≤ 1000)) hp)
      clear hp hQ0
      subst hA
      by_cases h1 : 1000 < p.t
      · have HV : Hid ((P.all fun b => decide (b.t ≤ 1000)) = false) := by show _ = _; rw [HA.out, HX.out, decide_eq_false (by omega)]; rfl
        have HC : Hid (cnE L K l pl = 2) := by show _ = _; unfold cnE; rw [HE.out, if_pos rfl, HPE.out, HV.out]; rfl
        have HP : Hid (cnP L K l pl = []) := by show _ = _; unfold cnP; rw [HC.out]; rfl
        go_wp2_with fail
        go_ret2
        exact ⟨none, 0, [], by rw [HC.out, HP.out]; rfl, hB, by rw [HP.out]; exact PlanAt.nil_ _⟩
      · have HA2 : Hid ((P.all fun b => decide (b.t ≤ 1000)) = (P.drop (i + 1)).all fun b => decide (b.t ≤ 1000)) := by show _ = _; rw [HA.out, HX.out, decide_eq_true (by omega)]; rfl
        go_wp2_with fail
        go_roundw
        case rel => exact ⟨i + 1, by go_num, by omega, HA2, hQ, hB⟩
        case measure => simp [intOf]; omega
    · obtain rfl : i = P.length := by omega
      have HV : Hid ((P.all fun b => decide (b.t ≤ 1000)) = true) := by show _ = _; rw [HA.out, List.drop_length]; rfl
      have HC : Hid (cnE L K l pl = 0) := by show _ = _; unfold cnE; rw [HE.out, if_pos rfl, HPE.out, HV.out]; rfl
      have HP : Hid (cnP L K l pl = P) := by show _ = _; unfold cnP; rw [HC.out, HPE.out]; rfl
      go_wp2_with fail
      go_ret2
      exact ⟨A2, _, os, by rw [HC.out, HP.out]; rfl, hB, by rw [HP.out]; exact hQ⟩
end Go.Proofs.YtecaaimaeaocbaaDoor
