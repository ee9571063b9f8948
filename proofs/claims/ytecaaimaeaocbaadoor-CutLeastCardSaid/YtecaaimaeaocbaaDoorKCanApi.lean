/- Canonical of the program: the walk. -/
import Derived.Test.YtecaaimaeaocbaaDoorKCanon
import Derived.Test.YtecaaimaeaocbaaDoorKWaste
namespace Go.Proofs.YtecaaimaeaocbaaDoor
open Go Go.RowKit
def cnE (L K : Int) (l : List Ask) (pl : List Bat) : Int := if chkE L K l pl = 0 then (if (foldB pl).all (fun b => decide (b.t ≤ 1000)) then 0 else 2) else chkE L K l pl
def cnP (L K : Int) (l : List Ask) (pl : List Bat) : List Bat := if cnE L K l pl = 0 then foldB pl else []
def ApiCanonPost (L K : Int) (l : List Ask) (pl : List Bat) (w : World) (e : Ending) (w' : World) : Prop :=
  ∃ A' c' os, e = .returned (.tuple #[.slice A' (cnP L K l pl).length c', .int .i64 (cnE L K l pl)]) ∧ Below w.heap.size w w' ∧ PlanAt w' A' os (cnP L K l pl)
theorem PlanAt.nil_ (w : World) : PlanAt w none [] [] := ⟨fun i x h => by simp at h, rfl, fun i b p h => by simp at h⟩
theorem canon_ok {L K : Int} {l : List Ask} {pl : List Bat} (h : chkE L K l pl = 0) : pl.length ≤ 1000 ∧ ∀ b ∈ pl, (1 ≤ b.t ∧ b.t ≤ 1000) ∧ b.ps.length ≤ 1000 ∧ ∀ p ∈ b.ps, 0 ≤ p := by
  obtain ⟨h1, h2, h3⟩ := chk_zero h
  refine ⟨shaped_few h2, fun b hb => ?_⟩
  obtain ⟨i, hi⟩ := List.getElem?_of_mem hb
  obtain ⟨a1, a2⟩ := shaped_at h2 hi
  refine ⟨a1, ?_, fun p hp => (fits_ok (h3 i b hi) p hp).1⟩
  have := (validK_iff.1 h1).few
  omega
set_option maxRecDepth 100000 in
set_option maxHeartbeats 1000000 in
theorem apiCanon_any (L K : Int) (A : Option Addr) (c : Nat) (l : List Ask) (AB : Option Addr) (cB : Nat) (bs : List Bt) (pl : List Bat) (w : World) (hS : Slc Ask.enc 2 w w.heap.size A l) (hP : PlanAt w AB bs pl) (hl : pl.length ≤ 100000) :
    Calls Tryd.prog 45 #[.agg #[.int .i64 L, .int .i64 K, .slice A l.length c], .slice AB pl.length cB] w (ApiCanonPost L K l pl w) := by
  have hk := Blk.new w 24 #[.int .i64 L, .int .i64 K, .slice A l.length c]
  have hB := (Below.refl w.heap.size w).alloc (Nat.le_refl _) (.cells #[.int .i64 L, .int .i64 K, .slice A l.length c] 24)
  go_enter Tryd.func45, Tryd.ntmps45
  go_upto_region 1 with fail
  generalize w.alloc (.cells #[.int .i64 L, .int .i64 K, .slice A l.length c] 24) = W at *
  have c0 := hk.cell_ 0 rfl
  have c1 := hk.cell_ 1 rfl
  have c2 := hk.cell_ 2 rfl
  obtain ⟨E, hE⟩ : ∃ E, chkE L K l pl = E := ⟨_, rfl⟩
  have HE := hide hE
  clear hE
  go_wp2_with fail
  refine (check_is L K A c l AB cB bs pl _ (hS.on hB) (hP.on hB) hl HE.out).mono ?_
  rintro e W ⟨rfl, hb⟩
  clear c0 c1 c2
  replace hk := hk.below hb hk.lt
  replace hB := hB.trans (hb.mono hB.size)
  clear hb
  have c0 := hk.cell_ 0 rfl
  have c1 := hk.cell_ 1 rfl
  have c2 := hk.cell_ 2 rfl
  by_cases h0 : ¬ E = 0
  · have HC : Hid (cnE L K l pl = E) := by show _ = _; unfold cnE; rw [HE.out, if_neg h0]
    have HP : Hid (cnP L K l pl = []) := by show _ = _; unfold cnP; rw [HC.out, if_neg h0]
    have hne : (E != 0) = true := by simp [h0]
    clear h0
    go_wp2_with fail
    go_ret2
    exact ⟨none, 0, [], by rw [HC.out, HP.out]; rfl, hB, by rw [HP.out]; exact PlanAt.nil_ _⟩
  obtain rfl : E = 0 := Classical.not_not.1 h0
  clear h0
  have HO := hide (canon_ok HE.out)
  go_wp2_with fail
  refine (canonical_any AB cB bs pl _ (hP.on hB) HO.out.1 HO.out.2).mono ?_
  rintro e W2 ⟨A2, c2, os, rfl, hb2, hQ⟩
  have hB2 := hB.trans (hb2.mono hB.size)
  have HQ := hide (And.intro hB2 hQ)
  clear hk hB hb2 hB2 hQ c0 c1
  obtain ⟨v, hv⟩ : ∃ v, ((foldB pl).all fun b => decide (b.t ≤ 1000)) = v := ⟨_, rfl⟩
  rw [hv]
  have HV := hide hv
  clear hv
  cases v
  case false =>
    have HC : Hid (cnE L K l pl = 2) := by show _ = _; unfold cnE; rw [HE.out, if_pos rfl, HV.out]; rfl
    have HP : Hid (cnP L K l pl = []) := by show _ = _; unfold cnP; rw [HC.out]; rfl
    go_wp2_with fail
    go_ret2
    exact ⟨none, 0, [], by rw [HC.out, HP.out]; rfl, HQ.out.1, by rw [HP.out]; exact PlanAt.nil_ _⟩
  case true =>
    have HC : Hid (cnE L K l pl = 0) := by show _ = _; unfold cnE; rw [HE.out, if_pos rfl, HV.out]; rfl
    have HP : Hid (cnP L K l pl = foldB pl) := by show _ = _; unfold cnP; rw [HC.out]; rfl
    go_wp2_with fail
    go_ret2
    exact ⟨A2, c2, os, by rw [HC.out, HP.out]; rfl, HQ.out.1, by rw [HP.out]; exact HQ.out.2⟩
end Go.Proofs.YtecaaimaeaocbaaDoor
