/- Waste of both texts: the walks. -/
import Derived.Test.YtecaaimaeaocbaaDoorKRolls
namespace Go.Proofs.YtecaaimaeaocbaaDoor
open Go Go.RowKit
theorem rolls_is (n : Nat) (AB : Option Addr) (cB : Nat) (bs : List Bt) (pl : List Bat) (w : World) (hP : PlanAt w AB bs pl) (hs : shapedP n pl = true) {v : Int} (h : rollsI pl = v) :
    Calls Tryd.prog 84 #[.slice AB pl.length cB] w fun e w' => e = .returned (.int .i64 v) ∧ Below w.heap.size w w' := by
  subst h; exact rolls_any n AB cB bs pl w hP hs
theorem refRolls_is (n : Nat) (AB : Option Addr) (cB : Nat) (bs : List Bt) (pl : List Bat) (w : World) (hP : PlanAt w AB bs pl) (hs : shapedP n pl = true) {v : Int} (h : rollsI pl = v) :
    Calls Tryd.prog 90 #[.slice AB pl.length cB] w fun e w' => e = .returned (.int .i64 v) ∧ Below w.heap.size w w' := by
  subst h; exact refRolls_any n AB cB bs pl w hP hs
theorem lengths_is (L K : Int) (A : Option Addr) (c : Nat) (l : List Ask) (w : World) (hS : Slc Ask.enc 2 w w.heap.size A l) (hv : VK L K l) {v : Int} (h : lenI l = v) :
    Calls Tryd.prog 91 #[.agg #[.int .i64 L, .int .i64 K, .slice A l.length c]] w fun e w' => e = .returned (.int .i64 v) ∧ Below w.heap.size w w' := by
  subst h; exact lengths_any L K A c l w hS hv
set_option maxRecDepth 100000 in
set_option maxHeartbeats 1000000 in
theorem apiWaste_any (L K : Int) (A : Option Addr) (c : Nat) (l : List Ask) (AB : Option Addr) (cB : Nat) (bs : List Bt) (pl : List Bat) (w : World) (hS : Slc Ask.enc 2 w w.heap.size A l) (hP : PlanAt w AB bs pl) (hl : pl.length ≤ 100000) :
    Calls Tryd.prog 52 #[.agg #[.int .i64 L, .int .i64 K, .slice A l.length c], .slice AB pl.length cB] w fun e w' => e = .returned (.tuple #[.int .i64 (wsE L K l pl), .int .i64 (chkE L K l pl)]) ∧ Below w.heap.size w w' := by
  have hk := Blk.new w 24 #[.int .i64 L, .int .i64 K, .slice A l.length c]
  have hB := (Below.refl w.heap.size w).alloc (Nat.le_refl _) (.cells #[.int .i64 L, .int .i64 K, .slice A l.length c] 24)
  go_enter Tryd.func52, Tryd.ntmps52
  go_upto_region 1 with fail
  generalize w.alloc (.cells #[.int .i64 L, .int .i64 K, .slice A l.length c] 24) = W at *
  have c0 := hk.cell_ 0 rfl
  have c1 := hk.cell_ 1 rfl
  have c2 := hk.cell_ 2 rfl
  obtain ⟨E, hE⟩ : ∃ E, chkE L K l pl = E := ⟨_, rfl⟩
  have HE := hide hE
  clear hE
  go_wp2_with fail
  refine (check_is L K A c l AB cB bs pl _ (hS.on hB) (hP.on hB) hl HE.out).mono ?_
  rintro e W ⟨rfl, hb⟩
  clear c0 c1 c2
  replace hk := hk.below hb hk.lt
  replace hB := hB.trans (hb.mono hB.size)
  clear hb
  have c0 := hk.cell_ 0 rfl
  have c1 := hk.cell_ 1 rfl
  have c2 := hk.cell_ 2 rfl
  by_cases h0 : ¬ E = 0
  · have HR : Hid (wsE L K l pl = 0) := by show _ = _; unfold wsE; rw [if_neg (by rw [HE.out]; exact h0)]
    have hne : (E != 0) = true := by simp [h0]
    clear h0
    go_wp2_with fail
    go_ret2
    exact ⟨by rw [HE.out, HR.out]; rfl, hB⟩
  obtain rfl : E = 0 := Classical.not_not.1 h0
  clear h0
  have HZ := hide (chk_zero HE.out)
  have HR : Hid (wsE L K l pl = rollsI pl * L - lenI l) := by show _ = _; unfold wsE; rw [if_pos HE.out]
  have HVK := hide (validK_iff.1 HZ.out.1)
  obtain ⟨⟨vL1, vL2⟩, _, hl8, _⟩ := HVK.out
  have htr := rollsI_take HZ.out.2.1 pl.length
  rw [List.take_length] at htr
  obtain ⟨r, hr⟩ : ∃ r, rollsI pl = r := ⟨_, rfl⟩
  rw [hr] at htr
  obtain ⟨rp, hrp⟩ : ∃ rp, r * L = rp := ⟨_, rfl⟩
  have hrb : 0 ≤ rp ∧ rp ≤ 1000000000 := by
    subst hrp
    refine ⟨Int.mul_nonneg htr.1 (by omega), ?_⟩
    calc r * L ≤ 1000000 * 1000 := Int.mul_le_mul htr.2 vL2 (by omega) (by omega)
      _ ≤ 1000000000 := by omega
  have e1 : IntKind.i64.wrap (r * L) = rp := by rw [hrp]; exact IntWalk.i64_in _ (by omega)
  have HR2 : Hid (wsE L K l pl = rp - lenI l) := by show _ = _; rw [HR.out, hr, hrp]
  have HRO := hide hr
  have HTL := hide (lenI_take HVK.out)
  have T1 := hide (hP.on hB)
  have T2 := hide (hS.on hB)
  clear hr hrp HR
  go_wp2_with fail
  refine wp_region_quiet (C := fun w' => ∃ u : Since W, w' = u.w) (by kernel_rfl) (by kernel_rfl) (Since.start W) ?_
  dsimp only
  have y_c0 := Since.cell c0
  have y_c1 := Since.cell c1
  have y_c2 := Since.cell c2
  clear c0 c1 c2
  repeat (go_big_quiet_step ((go_at_call 84; exact Since.calls (rolls_is l.length AB cB bs pl _ (PlanAt.on T1.out (Since.h _)) HZ.out.2.1 HRO.out))))
  refine wpQuiet_nil ?_
  rintro W ⟨⟨_, hb⟩, rfl⟩
  try dsimp only at hb ⊢
  clear y_c0 y_c1 y_c2
  replace hk := hk.below hb hk.lt
  replace hB := hB.trans (hb.mono hB.size)
  clear hb
  have c0 := hk.cell_ 0 rfl
  have c1 := hk.cell_ 1 rfl
  have c2 := hk.cell_ 2 rfl
  clear e1
  go_wp2_with fail
  clear c0 c1 c2
  go_loopw [7, 24] (fun x y W => ∃ (i : Nat), x = .int .i64 (rp - lenI (l.take i)) ∧ y = .int .i64 i ∧ i ≤ l.length ∧ Blk W w.heap.size 24 #[.int .i64 L, .int .i64 K, .slice A l.length c] ∧ Below w.heap.size w W) (fun x y _ => l.length - (intOf y).toNat)
  case atStart => exact ⟨0, by show Value.int .i64 rp = _; rw [show lenI (l.take 0) = 0 from rfl, Int.sub_zero], rfl, Nat.zero_le _, hk, hB⟩
  case round =>
    clear hk hB
    obtain ⟨W, rfl⟩ : ∃ W : World, W = wr := ⟨_, rfl⟩
    obtain ⟨i, rfl, rfl, hi, hk, hB⟩ := hrel
    by_cases hlt : i < l.length
    · obtain ⟨⟨ln, cn⟩, b, off, hx, hA, _, d0, d1⟩ := ask_at (hS.below hB) hlt
      have hii : (i : Int) < (l.length : Int) := by omega
      have hat := aterm_ok HVK.out (List.mem_of_getElem? hx)
      have HX := hide (lenI_snoc hx)
      dsimp only at d0 d1 hat
      obtain ⟨pr, hpre⟩ : ∃ pr, cn * ln = pr := ⟨_, rfl⟩
      rw [hpre] at hat
      have e1 : IntKind.i64.wrap (cn * ln) = pr := by rw [hpre]; exact IntWalk.i64_in _ (by omega)
      have HX2 : Hid (lenI (l.take (i + 1)) = lenI (l.take i) + pr) := by show _ = _; rw [HX.out, hpre]
      have htl := HTL.out i
      clear hx HX hpre
      subst hA
      generalize lenI (l.take i) = S at *
      have c0 := hk.cell_ 0 rfl
      have c1 := hk.cell_ 1 rfl
      have c2 := hk.cell_ 2 rfl
      have q_c0 := (hk.alloc (.cells #[.int .i64 ln, .int .i64 cn] 45)).cell_ 0 rfl
      have q_c1 := (hk.alloc (.cells #[.int .i64 ln, .int .i64 cn] 45)).cell_ 1 rfl
      have q_c2 := (hk.alloc (.cells #[.int .i64 ln, .int .i64 cn] 45)).cell_ 2 rfl
      go_upto_region 8 with fail
      clear q_c0 q_c1 q_c2
      clear c0 c1 c2
      have hm := Blk.new W 45 #[.int .i64 ln, .int .i64 cn]
      replace hk := hk.alloc (.cells #[.int .i64 ln, .int .i64 cn] 45)
      have hsz_bx : (W.alloc (.cells #[.int .i64 ln, .int .i64 cn] 45)).heap.size = W.heap.size + 1 := by simp
      have bxge := hB.size
      replace hB := hB.alloc hB.size (.cells #[.int .i64 ln, .int .i64 cn] 45)
      generalize hbx : W.heap.size = bx at *
      generalize W.alloc (.cells #[.int .i64 ln, .int .i64 cn] 45) = W at *
      clear hbx
      have c0 := hk.cell_ 0 rfl
      have c1 := hk.cell_ 1 rfl
      have c2 := hk.cell_ 2 rfl
      have m0 := hm.cell_ 0 rfl
      have m1 := hm.cell_ 1 rfl
      clear d0 d1
      go_wp2_with fail
      go_roundw
      case rel => exact ⟨i + 1, by rw [HX2.out]; go_num, by go_num, by omega, hk, hB⟩
      case measure => simp [intOf]; omega
    · obtain rfl : i = l.length := by omega
      rw [show lenI (l.take l.length) = lenI l by rw [List.take_length]]
      have c0 := hk.cell_ 0 rfl
      have c1 := hk.cell_ 1 rfl
      have c2 := hk.cell_ 2 rfl
      go_wp2_with fail
      go_ret2
      exact ⟨by rw [HE.out, HR2.out]; rfl, hB⟩
set_option maxRecDepth 100000 in
set_option maxHeartbeats 1000000 in
theorem refApiWaste_any (L K : Int) (A : Option Addr) (c : Nat) (l : List Ask) (AB : Option Addr) (cB : Nat) (bs : List Bt) (pl : List Bat) (w : World) (hS : Slc Ask.enc 2 w w.heap.size A l) (hP : PlanAt w AB bs pl) (hl : pl.length ≤ 100000) :
    Calls Tryd.prog 53 #[.agg #[.int .i64 L, .int .i64 K, .slice A l.length c], .slice AB pl.length cB] w fun e w' => e = .returned (.tuple #[.int .i64 (wsE L K l pl), .int .i64 (chkE L K l pl)]) ∧ Below w.heap.size w w' := by
  have hk := Blk.new w 24 #[.int .i64 L, .int .i64 K, .slice A l.length c]
  have hB := (Below.refl w.heap.size w).alloc (Nat.le_refl _) (.cells #[.int .i64 L, .int .i64 K, .slice A l.length c] 24)
  go_enter Tryd.func53, Tryd.ntmps53
  go_upto_region 1 with fail
  generalize w.alloc (.cells #[.int .i64 L, .int .i64 K, .slice A l.length c] 24) = W at *
  have c0 := hk.cell_ 0 rfl
  have c1 := hk.cell_ 1 rfl
  have c2 := hk.cell_ 2 rfl
  obtain ⟨E, hE⟩ : ∃ E, chkE L K l pl = E := ⟨_, rfl⟩
  have HE := hide hE
  clear hE
  go_wp2_with fail
  refine (refCheck_is L K A c l AB cB bs pl _ (hS.on hB) (hP.on hB) hl HE.out).mono ?_
  rintro e W ⟨rfl, hb⟩
  clear c0 c1 c2
  replace hk := hk.below hb hk.lt
  replace hB := hB.trans (hb.mono hB.size)
  clear hb
  have c0 := hk.cell_ 0 rfl
  have c1 := hk.cell_ 1 rfl
  have c2 := hk.cell_ 2 rfl
  by_cases h0 : ¬ E = 0
  · have HR : Hid (wsE L K l pl = 0) := by show _ = _; unfold wsE; rw [if_neg (by rw [HE.out]; exact h0)]
    have hne : (E != 0) = true := by simp [h0]
    clear h0
    go_wp2_with fail
    go_ret2
    exact ⟨by rw [HE.out, HR.out]; rfl, hB⟩
  obtain rfl : E = 0 := Classical.not_not.1 h0
  clear h0
  have HZ := hide (chk_zero HE.out)
  have HR : Hid (wsE L K l pl = rollsI pl * L - lenI l) := by show _ = _; unfold wsE; rw [if_pos HE.out]
  have HVK := hide (validK_iff.1 HZ.out.1)
  obtain ⟨⟨vL1, vL2⟩, _, hl8, _⟩ := HVK.out
  have htr := rollsI_take HZ.out.2.1 pl.length
  rw [List.take_length] at htr
  obtain ⟨r, hr⟩ : ∃ r, rollsI pl = r := ⟨_, rfl⟩
  rw [hr] at htr
  obtain ⟨rp, hrp⟩ : ∃ rp, r * L = rp := ⟨_, rfl⟩
  have hrb : 0 ≤ rp ∧ rp ≤ 1000000000 := by
    subst hrp
    refine ⟨Int.mul_nonneg htr.1 (by omega), ?_⟩
    calc r * L ≤ 1000000 * 1000 := Int.mul_le_mul htr.2 vL2 (by omega) (by omega)
      _ ≤ 1000000000 := by omega
  have e1 : IntKind.i64.wrap (r * L) = rp := by rw [hrp]; exact IntWalk.i64_in _ (by omega)
  have HR2 : Hid (wsE L K l pl = rp - lenI l) := by show _ = _; rw [HR.out, hr, hrp]
  have HRO := hide hr
  have HTL := hide (lenI_take HVK.out)
  have T1 := hide (hP.on hB)
  have T2 := hide (hS.on hB)
  clear hr hrp HR
  have htl := HTL.out l.length
  rw [List.take_length] at htl
  obtain ⟨S, hSe⟩ : ∃ S, lenI l = S := ⟨_, rfl⟩
  rw [hSe] at htl
  have HSE := hide hSe
  have HR3 : Hid (wsE L K l pl = rp - S) := by show _ = _; rw [HR2.out, hSe]
  clear hSe
  go_wp2_with fail
  refine wp_region_quiet (C := fun w' => ∃ u : Since W, w' = u.w) (by kernel_rfl) (by kernel_rfl) (Since.start W) ?_
  dsimp only
  have y_c0 := Since.cell c0
  have y_c1 := Since.cell c1
  have y_c2 := Since.cell c2
  clear c0 c1 c2
  repeat (go_big_quiet_step ((first | (go_at_call 90; exact Since.calls (refRolls_is l.length AB cB bs pl _ (PlanAt.on T1.out (Since.h _)) HZ.out.2.1 HRO.out)) | (go_at_call 91; exact Since.calls (lengths_is L K A c l _ (Slc.on T2.out (Since.h _)) HVK.out HSE.out)))))
  refine wpQuiet_nil ?_
  rintro W ⟨⟨_, hb⟩, rfl⟩
  try dsimp only at hb ⊢
  clear y_c0 y_c1 y_c2
  replace hk := hk.below hb hk.lt
  replace hB := hB.trans (hb.mono hB.size)
  clear hb
  have c0 := hk.cell_ 0 rfl
  have c1 := hk.cell_ 1 rfl
  have c2 := hk.cell_ 2 rfl
  go_wp2_with fail
  go_ret2
  exact ⟨by rw [HE.out, HR3.out]; rfl, hB⟩
end Go.Proofs.YtecaaimaeaocbaaDoor
