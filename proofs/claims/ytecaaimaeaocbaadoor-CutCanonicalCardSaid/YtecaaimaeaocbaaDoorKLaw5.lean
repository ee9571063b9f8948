/- CutChecks: the walk. -/
import Derived.Test.YtecaaimaeaocbaaDoorKRefCan
import Derived.Test.YtecaaimaeaocbaaDoorKLaw4
namespace Go.Proofs.YtecaaimaeaocbaaDoor
open Go Go.RowKit
theorem cnP_small {L K : Int} {l : List Ask} {pl : List Bat} : (cnP L K l pl).length ≤ 100000 ∧ ∀ b ∈ cnP L K l pl, b.ps.length ≤ 100000 := by
  unfold cnP
  by_cases h : cnE L K l pl = 0
  · rw [if_pos h]
    have h0 : chkE L K l pl = 0 := by
      unfold cnE at h
      by_cases h2 : chkE L K l pl = 0
      · exact h2
      · rw [if_neg h2] at h; exact h
    obtain ⟨h1, h2⟩ := canon_ok h0
    refine ⟨Nat.le_trans (foldB_len pl) (by omega), fun b hb => ?_⟩
    rcases foldl_keys ⟨b, hb, rfl⟩ with ⟨z, hz, ez⟩ | ⟨z, hz, _⟩
    · rw [← ez]
      have := (h2 z (List.mem_filter.1 hz).1).2.1
      omega
    · cases hz
  · rw [if_neg h]
    exact ⟨by simp, fun b hb => by cases hb⟩
set_option maxRecDepth 100000 in
set_option maxHeartbeats 2000000 in
theorem checks_walk (L K : Int) (A : Option Addr) (c : Nat) (l : List Ask) (AB : Option Addr) (cB : Nat) (bs : List Bt) (pl : List Bat) (w : World) (hS : Slc Ask.enc 2 w w.heap.size A l) (hP : PlanAt w AB bs pl) :
    Calls Tryd.prog 16 #[.agg #[.int .i64 L, .int .i64 K, .slice A l.length c], .slice AB pl.length cB] w fun e w' => e = .returned (.bool true) ∧ Below w.heap.size w w' := by
  have hk := Blk.new w 24 #[.int .i64 L, .int .i64 K, .slice A l.length c]
  have hB := (Below.refl w.heap.size w).alloc (Nat.le_refl _) (.cells #[.int .i64 L, .int .i64 K, .slice A l.length c] 24)
  go_enter Tryd.func16, Tryd.ntmps16
  go_upto_region 1 with fail
  generalize w.alloc (.cells #[.int .i64 L, .int .i64 K, .slice A l.length c] 24) = W at *
  have c0 := hk.cell_ 0 rfl
  have c1 := hk.cell_ 1 rfl
  have c2 := hk.cell_ 2 rfl
  obtain ⟨v, hv⟩ : ∃ v, wideP l.length bs = v := ⟨_, rfl⟩
  have HV := hide hv
  go_wp2_with fail
  refine (wide_is L K A c l AB cB pl.length bs _ (hP.on hB).row hP.len HV.out).mono ?_
  rintro e W ⟨rfl, hb⟩
  clear c0 c1 c2
  replace hk := hk.below hb hk.lt
  replace hB := hB.trans (hb.mono hB.size)
  clear hb
  have c0 := hk.cell_ 0 rfl
  have c1 := hk.cell_ 1 rfl
  have c2 := hk.cell_ 2 rfl
  cases v
  case true =>
    go_wp2_with fail
    refine (kawake_any _).mono ?_
    rintro e W ⟨rfl, hb⟩
    clear c0 c1 c2
    replace hk := hk.below hb hk.lt
    replace hB := hB.trans (hb.mono hB.size)
    clear hb
    have c0 := hk.cell_ 0 rfl
    have c1 := hk.cell_ 1 rfl
    have c2 := hk.cell_ 2 rfl
    go_wp2_with fail
    go_ret
    exact ⟨rfl, hB⟩
  have hl : pl.length ≤ 100000 := by
    unfold wideP at hv
    simp only [Bool.or_eq_false_iff, decide_eq_false_iff_not] at hv
    have := hP.len
    omega
  clear hv
  have HSM := hide (cnP_small (L := L) (K := K) (l := l) (pl := pl))
  go_wp2_with fail
  refine (refCheck_is L K A c l AB cB bs pl _ (hS.on hB) (hP.on hB) hl rfl).mono ?_
  rintro e W ⟨rfl, hb⟩
  clear c0 c1 c2
  replace hk := hk.below hb hk.lt
  replace hB := hB.trans (hb.mono hB.size)
  clear hb
  have c0 := hk.cell_ 0 rfl
  have c1 := hk.cell_ 1 rfl
  have c2 := hk.cell_ 2 rfl
  go_wp2_with fail
  refine (apiRolls_any L K A c l AB cB bs pl _ (hS.on hB) (hP.on hB) hl).mono ?_
  rintro e W ⟨rfl, hb⟩
  clear c0 c1 c2
  replace hk := hk.below hb hk.lt
  replace hB := hB.trans (hb.mono hB.size)
  clear hb
  have c0 := hk.cell_ 0 rfl
  have c1 := hk.cell_ 1 rfl
  have c2 := hk.cell_ 2 rfl
  go_wp2_with fail
  refine (refApiRolls_any L K A c l AB cB bs pl _ (hS.on hB) (hP.on hB) hl).mono ?_
  rintro e W ⟨rfl, hb⟩
  clear c0 c1 c2
  replace hk := hk.below hb hk.lt
  replace hB := hB.trans (hb.mono hB.size)
  clear hb
  have c0 := hk.cell_ 0 rfl
  have c1 := hk.cell_ 1 rfl
  have c2 := hk.cell_ 2 rfl
  go_wp2_with fail
  refine (apiWaste_any L K A c l AB cB bs pl _ (hS.on hB) (hP.on hB) hl).mono ?_
  rintro e W ⟨rfl, hb⟩
  clear c0 c1 c2
  replace hk := hk.below hb hk.lt
  replace hB := hB.trans (hb.mono hB.size)
  clear hb
  have c0 := hk.cell_ 0 rfl
  have c1 := hk.cell_ 1 rfl
  have c2 := hk.cell_ 2 rfl
  go_wp2_with fail
  refine (refApiWaste_any L K A c l AB cB bs pl _ (hS.on hB) (hP.on hB) hl).mono ?_
  rintro e W ⟨rfl, hb⟩
  clear c0 c1 c2
  replace hk := hk.below hb hk.lt
  replace hB := hB.trans (hb.mono hB.size)
  clear hb
  have c0 := hk.cell_ 0 rfl
  have c1 := hk.cell_ 1 rfl
  have c2 := hk.cell_ 2 rfl
  go_wp2_with fail
  refine (check_is L K A c l AB cB bs pl _ (hS.on hB) (hP.on hB) hl rfl).mono ?_
  rintro e W ⟨rfl, hb⟩
  clear c0 c1 c2
  replace hk := hk.below hb hk.lt
  replace hB := hB.trans (hb.mono hB.size)
  clear hb
  have c0 := hk.cell_ 0 rfl
  have c1 := hk.cell_ 1 rfl
  have c2 := hk.cell_ 2 rfl
  have he1 : (chkE L K l pl != chkE L K l pl) = false := by simp
  have he2 : (rlE L K l pl != rlE L K l pl) = false := by simp
  have he3 : (wsE L K l pl != wsE L K l pl) = false := by simp
  go_wp2_with fail
  refine (apiCanon_any L K A c l AB cB bs pl _ (hS.on hB) (hP.on hB) hl).mono ?_
  rintro e W ⟨A2, k2, os, rfl, hb, hQ⟩
  clear c0 c1 c2
  replace hk := hk.below hb hk.lt
  replace hB := hB.trans (hb.mono hB.size)
  clear hb
  have c0 := hk.cell_ 0 rfl
  have c1 := hk.cell_ 1 rfl
  have c2 := hk.cell_ 2 rfl
  go_wp2_with fail
  refine (refCanon_any L K A c l AB cB bs pl _ (hS.on hB) (hP.on hB) hl).mono ?_
  rintro e W ⟨A3, k3, os3, rfl, hb, hQ3⟩
  clear c0 c1 c2
  replace hk := hk.below hb hk.lt
  replace hQ := PlanAt.on hQ hb
  replace hB := hB.trans (hb.mono hB.size)
  clear hb
  have c0 := hk.cell_ 0 rfl
  have c1 := hk.cell_ 1 rfl
  have c2 := hk.cell_ 2 rfl
  have he4 : (cnE L K l pl == cnE L K l pl) = true := by simp
  go_wp2_with fail
  refine (samePlan_any A2 k2 os A3 k3 os3 (cnP L K l pl) _ hQ hQ3 HSM.out.1 HSM.out.2).mono ?_
  rintro e W ⟨rfl, hb⟩
  clear c0 c1 c2
  replace hk := hk.below hb hk.lt
  replace hQ := PlanAt.on hQ hb
  replace hQ3 := PlanAt.on hQ3 hb
  replace hB := hB.trans (hb.mono hB.size)
  clear hb
  have c0 := hk.cell_ 0 rfl
  have c1 := hk.cell_ 1 rfl
  have c2 := hk.cell_ 2 rfl
  go_wp2_with fail
  refine (kawake_any _).mono ?_
  rintro e W ⟨rfl, hb⟩
  clear c0 c1 c2
  replace hk := hk.below hb hk.lt
  replace hQ := PlanAt.on hQ hb
  replace hQ3 := PlanAt.on hQ3 hb
  replace hB := hB.trans (hb.mono hB.size)
  clear hb
  have c0 := hk.cell_ 0 rfl
  have c1 := hk.cell_ 1 rfl
  have c2 := hk.cell_ 2 rfl
  go_wp2_with fail
  go_ret
  exact ⟨rfl, hB⟩
theorem checks_n (L K : Int) (A : Option Addr) (c : Nat) (l : List Ask) (AB : Option Addr) (cB : Nat) (bs : List Bt) (pl : List Bat) (w : World) (hS : Slc Ask.enc 2 w w.heap.size A l) (hP : PlanAt w AB bs pl) :
    Calls Tryd.prog 16 #[.agg #[.int .i64 L, .int .i64 K, .slice A l.length c], .slice AB bs.length cB] w fun e w' => e = .returned (.bool true) ∧ Below w.heap.size w w' := by
  rw [hP.len]; exact checks_walk L K A c l AB cB bs pl w hS hP
end Go.Proofs.YtecaaimaeaocbaaDoor
