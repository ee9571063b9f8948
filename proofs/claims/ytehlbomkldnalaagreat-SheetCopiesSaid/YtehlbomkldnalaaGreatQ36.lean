/- Parts of the proofs of this seat: Copies. Each part says what it proves; no condition beyond those stated there. -/
import Derived.Test.YtehlbomkldnalaaGreatQ10
import Derived.Test.YtehlbomkldnalaaGreatQ32
import Derived.Test.YtehlbomkldnalaaGreatQ33
import Derived.Test.YtehlbomkldnalaaGreatQ35

/- SheetCopies: the walk. -/
namespace Go.Proofs.YtehlbomkldnalaaGreat
open Go Go.RowKit
set_option maxRecDepth 100000 in
set_option maxHeartbeats 16000000 in
theorem copies_walk (mw ml l0 l1 l2 : Int) (A1 A2 A3 : Option Addr) (z1 z2 z3 : Nat) (xs1 xs2 xs3 : List CallV) (w : World) (hS1 : Slc CallV.enc 17 w w.heap.size A1 xs1) (hS2 : Slc CallV.enc 17 w w.heap.size A2 xs2) (hS3 : Slc CallV.enc 17 w w.heap.size A3 xs3) (hl1 : xs1.length ≤ maxLen) (hl2 : xs2.length ≤ maxLen) (hl3 : xs3.length ≤ maxLen) (hi1 : ∀ (i : Nat) x, xs1[i]? = some x → CallIn w x) (hi2 : ∀ (i : Nat) x, xs2[i]? = some x → CallIn w x) (hi3 : ∀ (i : Nat) x, xs3[i]? = some x → CallIn w x) :
  Calls Tryz.prog 4 #[.agg #[mw, ml, l0, l1, l2, .slice A1 xs1.length z1, .slice A2 xs2.length z2, .slice A3 xs3.length z3]] w fun e w' => e = .returned (.bool true) ∧ Below w.heap.size w w' := by
 have HS1 := hide hS1
 have HS2 := hide hS2
 have HS3 := hide hS3
 have HI1 := hide hi1
 have HI2 := hide hi2
 have HI3 := hide hi3
 have HL1 := hide hl1
 have HL2 := hide hl2
 have HL3 := hide hl3
 have hk := Blk.new w 51 #[mw, ml, l0, l1, l2, .slice A1 xs1.length z1, .slice A2 xs2.length z2, .slice A3 xs3.length z3]
 have hB := (Below.refl w.heap.size w).alloc (Nat.le_refl _) (.cells #[mw, ml, l0, l1, l2, .slice A1 xs1.length z1, .slice A2 xs2.length z2, .slice A3 xs3.length z3] 51)
 clear hS1 hS2 hS3 hi1 hi2 hi3 hl1 hl2 hl3
 go_enter Tryz.func4, Tryz.ntmps4
 go_upto_region 1 with fail
 generalize w.alloc (.cells #[mw, ml, l0, l1, l2, .slice A1 xs1.length z1, .slice A2 xs2.length z2, .slice A3 xs3.length z3] 51) = W at *
 have k0 := hk.cell_ 0 (v := mw) rfl
 have HKB := hide hk
 have HBB := hide hB
 clear k0 hk hB
 refine wp_region_scr (tg := 24) (zs := #[.int .i64 0, .int .i64 0, .int .i64 0, .int .i64 0, .int .i64 0]) (cs := #[mw, ml, l0, l1, l2]) (va := .slice A1 xs1.length z1) (vb := .slice A2 xs2.length z2) (vc := .slice A3 xs3.length z3) [0, 1, 2, 3, 4, 5, 6, 7] (by kernel_rfl) (by kernel_rfl) (by kernel_rfl) (by kernel_rfl) rfl rfl rfl rfl rfl rfl rfl rfl rfl rfl rfl rfl rfl rfl rfl rfl rfl rfl rfl (fun ev w0 => by first | rfl | simp [execOp, go_sem] | kernel_rfl) (by simp) (by kernel_rfl) rfl (by simp [Value.oneCell']) ?_ rfl
 apply Exists.intro
 refine ⟨fun W1 hc => ?_, ?_⟩
 ·have hx1 := HKB.out.chg hc (fun h => h)
  obtain ⟨y_k0, y_k1, y_k2, y_k3, y_k4, y_k5, y_k6, y_k7⟩ := hx1.sin8
  clear hx1
  dsimp only [pick, List.filterMap, List.getElem?_cons_succ, List.getElem?_cons_zero]
  repeat (go_big_quiet_step (fail))
  exact wpQuiet_nil rfl
 refine ⟨rfl, by simp [Act.eval], by simp [Act.eval], by simp [Act.eval], by simp [Act.eval], fun gs W2 hb2 hs hgs => ?_⟩
 dsimp only [Act.put]
 simp only [List.setIfInBounds_toArray, List.set_cons_succ, List.set_cons_zero, List.drop_succ_cons, List.drop_zero]
 have hB := HBB.out.trans (hb2.mono HBB.out.size)
 clear HKB HBB hb2 hgs
 obtain ⟨W, rfl⟩ := is_ W2
 obtain ⟨c0, c1, c2, c3, c4⟩ := hs.all5
 cases hL : largeB xs1 12
 case true =>
  have HL := hide hL
  clear hL
  go_wp2_with fail
  refine (large_is A1 z1 xs1 12 W (Slc.on HS1.out hB) HL1.out HL.out).mono ?_
  rintro e W' ⟨rfl, rfl⟩
  clear c0 c1 c2 c3 c4 hs
  go_wp2_with fail
  refine (awake_any _).mono ?_
  rintro e W9 ⟨rfl, hb9⟩
  have hB9 := hB.trans (hb9.mono hB.size)
  go_wp2_with fail
  go_ret
  exact ⟨rfl, hB9⟩
 have HG1 := hide hL
 clear hL
 cases hL : largeB xs2 12
 case true =>
  have HL := hide hL
  clear hL
  go_wp2_with fail
  refine (large_is A1 z1 xs1 12 W (Slc.on HS1.out hB) HL1.out HG1.out).mono ?_
  rintro e W' ⟨rfl, rfl⟩
  go_wp2_with fail
  refine (large_is A2 z2 xs2 12 W (Slc.on HS2.out hB) HL2.out HL.out).mono ?_
  rintro e W' ⟨rfl, rfl⟩
  clear c0 c1 c2 c3 c4 hs
  go_wp2_with fail
  refine (awake_any _).mono ?_
  rintro e W9 ⟨rfl, hb9⟩
  have hB9 := hB.trans (hb9.mono hB.size)
  go_wp2_with fail
  go_ret
  exact ⟨rfl, hB9⟩
 have HG2 := hide hL
 clear hL
 cases hL : largeB xs3 12
 case true =>
  have HL := hide hL
  clear hL
  go_wp2_with fail
  refine (large_is A1 z1 xs1 12 W (Slc.on HS1.out hB) HL1.out HG1.out).mono ?_
  rintro e W' ⟨rfl, rfl⟩
  go_wp2_with fail
  refine (large_is A2 z2 xs2 12 W (Slc.on HS2.out hB) HL2.out HG2.out).mono ?_
  rintro e W' ⟨rfl, rfl⟩
  go_wp2_with fail
  refine (large_is A3 z3 xs3 12 W (Slc.on HS3.out hB) HL3.out HL.out).mono ?_
  rintro e W' ⟨rfl, rfl⟩
  clear c0 c1 c2 c3 c4 hs
  go_wp2_with fail
  refine (awake_any _).mono ?_
  rintro e W9 ⟨rfl, hb9⟩
  have hB9 := hB.trans (hb9.mono hB.size)
  go_wp2_with fail
  go_ret
  exact ⟨rfl, hB9⟩
 have HG3 := hide hL
 clear hL
 cases hv : validRules ⟨mw, ml, l0, l1, l2⟩
 case false =>
  have HV := hide hv
  clear hv
  go_wp2_with fail
  refine (large_is A1 z1 xs1 12 W (Slc.on HS1.out hB) HL1.out HG1.out).mono ?_
  rintro e W' ⟨rfl, rfl⟩
  go_wp2_with fail
  refine (large_is A2 z2 xs2 12 W (Slc.on HS2.out hB) HL2.out HG2.out).mono ?_
  rintro e W' ⟨rfl, rfl⟩
  go_wp2_with fail
  refine (large_is A3 z3 xs3 12 W (Slc.on HS3.out hB) HL3.out HG3.out).mono ?_
  rintro e W' ⟨rfl, rfl⟩
  go_wp2_with fail
  refine (rvr_is2 mw ml l0 l1 l2 _ HV.out).mono ?_
  rintro e W4 ⟨rfl, hb4⟩
  replace hB := hB.trans (hb4.mono hB.size)
  clear c0 c1 c2 c3 c4 hb4 hs
  go_wp2_with fail
  refine (awake_any _).mono ?_
  rintro e W9 ⟨rfl, hb9⟩
  have hB9 := hB.trans (hb9.mono hB.size)
  go_wp2_with fail
  go_ret
  exact ⟨rfl, hB9⟩
 have HV := hide hv
 clear hv
 go_wp2_with fail
 refine (large_is A1 z1 xs1 12 W (Slc.on HS1.out hB) HL1.out HG1.out).mono ?_
 rintro e W' ⟨rfl, rfl⟩
 go_wp2_with fail
 refine (large_is A2 z2 xs2 12 W (Slc.on HS2.out hB) HL2.out HG2.out).mono ?_
 rintro e W' ⟨rfl, rfl⟩
 go_wp2_with fail
 refine (large_is A3 z3 xs3 12 W (Slc.on HS3.out hB) HL3.out HG3.out).mono ?_
 rintro e W' ⟨rfl, rfl⟩
 go_wp2_with fail
 refine (rvr_is2 mw ml l0 l1 l2 _ HV.out).mono ?_
 rintro e W4 ⟨rfl, hb4⟩
 replace hs := hs.below hb4 hs.lt
 replace hB := hB.trans (hb4.mono hB.size)
 clear c0 c1 c2 c3 c4
 clear hb4
 obtain ⟨c0, c1, c2, c3, c4⟩ := hs.all5
 have hl12 : xs1.length ≤ 12 := by have := (not_large HG1.out).1; omega
 have hl22 : xs2.length ≤ 12 := by have := (not_large HG2.out).1; omega
 have hl32 : xs3.length ≤ 12 := by have := (not_large HG3.out).1; omega
 go_wp2_with fail
 refine (new_yes mw ml l0 l1 l2 W4 HV.out).mono ?_
 rintro e W5 ⟨g, ri, rp, rq, rl, rfl, hst, hg, h1, h2, h3, h4, hb5⟩
 have hX := sta_new (hst 0 (by omega))
 have hws := hB.size
 have hnew : ∀ k, (⟨g, ri, rp, rq, rl⟩ : Fp).has k → w.heap.size ≤ k := by
  rintro k (rfl | rfl | rfl | rfl | rfl)
  ·exact Nat.le_trans hws hg
  ·exact Nat.le_trans hws h1
  ·exact Nat.le_trans hws h2
  ·exact Nat.le_trans hws h3
  ·exact Nat.le_trans hws h4
 replace hs := hs.below hb5 hs.lt
 replace hB := hB.trans (hb5.mono hws)
 clear c0 c1 c2 c3 c4 hst hg h1 h2 h3 h4 hb5 hws
 obtain ⟨c0, c1, c2, c3, c4⟩ := hs.all5
 go_upto_region 7 with fail
 go_upto_region 8 with (refine wpList_bld rfl (.agg #[mw, ml, l0, l1, l2, .slice none 0 0, .slice none 0 0, .slice none 0 0, .slice none 0 0]) rfl (by simp [Act.eval]; rfl) (build_rv0 mw ml l0 l1 l2) ?_)
 have hbx := Blk.new W5 38 #[mw, ml, l0, l1, l2, .slice none 0 0, .slice none 0 0, .slice none 0 0, .slice none 0 0]
 have hal := (Below.refl W5.heap.size W5).alloc (Nat.le_refl _) (.cells #[mw, ml, l0, l1, l2, .slice none 0 0, .slice none 0 0, .slice none 0 0, .slice none 0 0] 38)
 replace hX := hX.below hal
 have hb4 : w.heap.size ≤ W5.heap.size := hB.size
 replace hB := hB.trans (hal.mono hB.size)
 obtain ⟨b7, hb7⟩ := nm_ W5.heap.size
 rw [hb7] at hbx hb4 ⊢
 clear c0 c1 c2 c3 c4 hs hal hb7
 generalize W5.alloc (.cells #[mw, ml, l0, l1, l2, .slice none 0 0, .slice none 0 0, .slice none 0 0, .slice none 0 0] 38) = W6 at *
 have HB7 := hide hb4
 clear hb4
 go_upto_region 9 with fail
 go_loopw [10] (fun z wr => ∃ (i : Nat) (p : Fp) (s : SS) (v : RV) (r : RS), z = .int .i64 i ∧ i ≤ xs1.length ∧ p.g = g ∧ StA wr p s ∧ Hid (Inv s ∧ Room s (2000 - 50 * i) ∧ Rel r s) ∧ Blk wr b7 38 ↑v ∧ RAt wr (QQ p p b7 b7) v r ∧ (∀ k, p.has k → w.heap.size ≤ k) ∧ Below w.heap.size w wr) (fun z _ => xs1.length - (intOf z).toNat)
 case atStart => exact ⟨0, ⟨g, ri, rp, rq, rl⟩, ⟨⟨mw, ml, l0, l1, l2⟩, [], [], [], [], 0, 0, 0⟩, rv0 mw ml l0 l1 l2, ⟨⟨mw, ml, l0, l1, l2⟩, [], [], [], []⟩, rfl, Nat.zero_le _, rfl, hX, ⟨new_inv HV.out, new_room.less (by omega), rel_new _⟩, hbx, rat0 _ _ _ _ _ _ _, hnew, hB⟩
 case round =>
  clear hX hbx hnew hB
  obtain ⟨W, rfl⟩ := is_ wr
  obtain ⟨i, p, s, v, r, rfl, hi, hpg, hX, hH, hbx, hA, hnew, hB⟩ := hrel
  by_cases hlt : i < xs1.length
  case pos => as_aux_lemma =>
   have hii : (i : Int) < (xs1.length : Int) := by omega
   have ei := wsuc i (by omega)
   have HBB := hide hB
   have HNW := hide hnew
   have hI := hH.out.1
   have hRM : Room s (2000 - 50 * (i + 1) + 50) := hH.out.2.1.less (by omega)
   have hR := hH.out.2.2
   have hold : ∀ k, QQ p p b7 b7 k → w.heap.size ≤ k := fun k hk => by
    rcases hk with h | h | h | h
    ·exact hnew k h
    ·exact hnew k h
    ·rw [h]; exact HB7.out
    ·rw [h]; exact HB7.out
   have hPP : (∀ k, QQ p p b7 b7 k → k < W.heap.size) ∧ (∀ k, p.has k → QQ p p b7 b7 k) ∧ QQ p p b7 b7 b7 := ⟨fun k hk => by
    rcases hk with h | h | h | h
    ·exact hX.lt h
    ·exact hX.lt h
    ·rw [h]; exact hbx.lt
    ·rw [h]; exact hbx.lt, fun k hk => .inl hk, .inr (.inr (.inl rfl))⟩
   clear hnew hH
   obtain ⟨x, fs, b, off, hAA, hbw, hd, hn, hfl, hfs, hof⟩ := call_facts HS1.out HI1.out (not_large HG1.out).2 hB hold i hlt
   have HXX := hide hX
   have HI := hide hI
   have HRM := hide hRM
   have HAX := hide hA
   have HR := hide hR
   have HPP := hide hPP
   have HBX := hide hbx
   have HPG := hide hpg
   have HNB := hide (hX.nhas hbx (by decide))
   have HBW : Hid (b < W.heap.size ∧ ¬ (p.has b ∨ b = b7)) := ⟨Nat.lt_of_lt_of_le hbw hB.size, fun h => by
    have h9 : w.heap.size ≤ b := hold b (by
     rcases h with h | h
     ·exact hPP.2.1 b h
     ·rw [h]; exact hPP.2.2)
    omega⟩
   have HD := hide hd
   have HFN := hide hn
   have HFS := hide hfs
   have HOF := hide hof
   have HFL := hide hfl
   subst hAA
   clear hX hI hRM hA hR hPP hbx hpg hd hn hfs hof hfl hbw hold hB
   go_upto_region 11 with fail
   refine wp_region_cop (args := #[.pointer (some ⟨g, 0, none⟩), .agg ↑v, .agg ↑x]) (tg := 38) (old := ↑v) (g := b7) none p.has (fun w0 => StA w0 p s) (CpR p (callF s x fs) (QQ p p b7 b7) W.heap.size) 9 62 67 60 68 69 (by kernel_rfl) (by kernel_rfl) (by kernel_rfl) (by kernel_rfl) (fun w0 w1 hb h => h.below hb) (fun u y w0 w1 hb h => h.below hb) (fun u y w0 w1 cs hB9 hc h => h.chg hB9 HPP.out.2.2 hc) (fun u y w0 ⟨_, _, v', _, h1, _⟩ => ⟨_, h1, rfl, by simp [Value.oneCell']⟩) HNB.out rfl rfl rfl rfl rfl rfl (fun d h => by cases h <;> exact ⟨_, rfl, rfl, rfl, rfl⟩) rfl rfl rfl rfl rfl rfl rfl rfl rfl rfl rfl rfl rfl rfl rfl rfl rfl ⟨by simp, by simp, by simp, by simp⟩ ⟨by decide, by decide⟩ ⟨by decide, by decide, by decide, by decide, by decide⟩ HBX.out (by kernel_rfl) HXX.out (load_rv v _ rfl) (fun _ _ => rfl) ?_
   apply Exists.intro
   refine ⟨fun W1 hc => ?_, ?_⟩
   ·obtain ⟨y0, y1, y2, y3, y4, y5, y6, y7, y8, y9, y10, y11, y12, y13, y14, y15, y16⟩ := sin_call x fun j u hu => (World.cell?_of_block (hc.block b HBW.out.1 HBW.out.2)).trans (HD.out j u hu)
    clear hc
    dsimp only [pick, List.filterMap, List.getElem?_cons_succ, List.getElem?_cons_zero]
    repeat (go_big_quiet_step (fail))
    exact wpQuiet_nil rfl
   refine ⟨rfl, by simp [Act.eval], by simp [Act.eval, Act.put], fun w0 hc0 hX0 => ?_, fun cs y w9 hc9 hR9 hs9 => ?_⟩
   ·rw [← HPG.out]
    exact cop_call p s _ v r x fs b7 W w0 hX0 HI.out (HRM.out.less (by omega)) HAX.out HR.out HPP.out.1 HPP.out.2.1 HPP.out.2.2 HFN.out HFS.out HOF.out HFL.out hc0
   obtain ⟨rfl, p', v', r', hcs, hX9, hpg9, hsub, hA9, hR'⟩ := hR9
   injection hcs with hcs
   subst hcs
   have hB9 := HBB.out.trans (hc9.to_below HBB.out.size fun k hk h => by
    rcases h with h | h
    ·have := HNW.out k h; omega
    ·have := HB7.out; omega)
   have hnew9 : ∀ k, p'.has k → w.heap.size ≤ k := fun k hk => by
    rcases hsub k hk with h | h
    ·exact HNW.out k h
    ·exact Nat.le_trans HBB.out.size h
   have hA2 : RAt w9 (QQ p' p' b7 b7) v' r' := hA9.less fun k hk => by
    rcases hk with h | h | h | h
    ·exact .inr h
    ·exact .inr h
    ·exact .inl (.inr (.inr (.inl h)))
    ·exact .inl (.inr (.inr (.inl h)))
   have HH : Hid (Inv (callF s x fs) ∧ Room (callF s x fs) (2000 - 50 * (i + 1)) ∧ Rel r' (callF s x fs)) := ⟨call_inv HI.out x fs, call_room HRM.out x fs, hR'⟩
   have hpg8 := hpg9.trans HPG.out
   clear hc9 hpg9 hsub hA9 hR' HXX HI HRM HAX HR HPP HBX HPG HNB HBW HD HFN HFS HOF HFL HBB HNW
   generalize callF s x fs = s' at *
   dsimp only [cpN, cpAct, Act.put]
   simp only [List.setIfInBounds_toArray, List.set_cons_succ, List.set_cons_zero, List.drop_succ_cons, List.drop_zero]
   go_wp2_with fail
   go_roundw
   case rel => exact ⟨i + 1, p', s', v', r', by go_num, by omega, hpg8, hX9, HH, hs9, hA2, hnew9, hB9⟩
   case measure => simp [intOf]; omega
  case neg =>
   obtain rfl : i = xs1.length := by omega
   have HPG := hide hpg
   have HHH : Hid (Inv s ∧ Room s 1400 ∧ Rel r s) := ⟨hH.out.1, hH.out.2.1.less (by omega), hH.out.2.2⟩
   have hA2 : RAt W (fun k => p.has k ∨ W.heap.size ≤ k) v r := hA.more fun k hk => by
    rcases hk with h | h
    ·exact .inl (.inl h)
    ·exact .inr h
   have hplt : ∀ k, p.has k → k < W.heap.size := fun k hk => hX.lt hk
   have HNW := hide hnew
   clear hpg hH hA hi hlt hnew
   go_wp2_with fail
   rw [← HPG.out]
   refine (copy_any p s W hX).mono ?_
   rintro e W3 hcp
   obtain ⟨q, rfl, hY, hqn, hb3⟩ := hcp
   rw [HPG.out]
   have hX3 := hX.below hb3
   have hbx3 := hbx.below hb3 hbx.lt
   have hA3 := hA2.below hb3
   have hWw : w.heap.size ≤ W.heap.size := hB.size
   have hWB : W.heap.size ≤ W3.heap.size := hb3.size
   replace hB := hB.trans (hb3.mono hWw)
   obtain ⟨b0, hb0⟩ := nm_ W.heap.size
   rw [hb0] at hA3 hplt hqn hWw hWB
   obtain ⟨g2, hg2⟩ := nm_ q.g
   have HQG := hide hg2
   rw [hg2]
   have HPLT := hide hplt
   have HQN := hide hqn
   have HWW := hide hWw
   have HWB := hide hWB
   clear hX hbx hA2 hb3 hb0 hg2 hplt hqn hWw hWB
   obtain ⟨W, rfl⟩ := is_ W3
   obtain ⟨c0, c1, c2, c3, c4, c5, c6, c7, c8⟩ := hbx3.all9
   go_upto_region 15 with fail
   go_wp2_with fail
   have z_c0 := Since.hid c0
   have z_c1 := Since.hid c1
   have z_c2 := Since.hid c2
   have z_c3 := Since.hid c3
   have z_c4 := Since.hid c4
   have z_c5 := Since.hid c5
   have z_c6 := Since.hid c6
   have z_c7 := Since.hid c7
   have z_c8 := Since.hid c8
   have hok : FldOk W ([⟨2, .ptr, (.cells ↑zrA 38), 4, (.cells ↑v 38)⟩, ⟨3, .ptr, (.cells ↑zrA 38), 5, (.cells ↑v 38)⟩]) [] := FldOk.nil_
   refine wp_region_both 6 [0, 1] [2, 3, 4, 5] [⟨2, .ptr, (.cells ↑zrA 38), 4, (.cells ↑v 38)⟩, ⟨3, .ptr, (.cells ↑zrA 38), 5, (.cells ↑v 38)⟩] [] (fun f hf => by cases hf) (by kernel_rfl) (by kernel_rfl) (by kernel_rfl) (by kernel_rfl) (by kernel_rfl) (by simp) ?_
   apply Exists.intro
   refine ⟨fun W1 hc0 => ?_, ?_⟩
   ·have hb := hc0.nil_
    have y_c0 := Since.cell (z_c0.out W1 hb)
    have y_c1 := Since.cell (z_c1.out W1 hb)
    have y_c2 := Since.cell (z_c2.out W1 hb)
    have y_c3 := Since.cell (z_c3.out W1 hb)
    have y_c4 := Since.cell (z_c4.out W1 hb)
    have y_c5 := Since.cell (z_c5.out W1 hb)
    have y_c6 := Since.cell (z_c6.out W1 hb)
    have y_c7 := Since.cell (z_c7.out W1 hb)
    have y_c8 := Since.cell (z_c8.out W1 hb)
    replace hX3 := StA.below hX3 hb
    replace hY := StA.below hY hb
    replace hA3 := RAt.below hA3 hb
    replace hbx3 := hbx3.below hb hbx3.lt
    replace hB := hB.trans (hb.mono hB.size)
    dsimp only [pick, List.filterMap, List.getElem?_cons_succ, List.getElem?_cons_zero]
    repeat (go_big_quiet_step ((fail)))
    exact wpQuiet_nil rfl
   ·refine ownWalk_alloc ⟨2, .ptr, (.cells ↑zrA 38), 4, (.cells ↑v 38)⟩ hok (by kernel_rfl) rfl rfl rfl rfl (fun _ => rfl) (by simp) (by simp) (fun h => absurd h (by simp)) ?_
    intro hpab
    simp only [Shape.val, List.setIfInBounds_toArray, List.set_cons_succ, List.set_cons_zero]
    refine ownWalk_alloc ⟨3, .ptr, (.cells ↑zrA 38), 5, (.cells ↑v 38)⟩ hok (by kernel_rfl) rfl rfl rfl rfl (fun _ => rfl) (by simp) (by simp) (fun h => absurd h (by simp)) ?_
    intro hpbb
    simp only [Shape.val, List.setIfInBounds_toArray, List.set_cons_succ, List.set_cons_zero]
    refine ownWalk_fill (cs := ↑zrA) (cs' := ↑v) ⟨2, .ptr, (.cells ↑zrA 38), 4, (.cells ↑v 38)⟩ hok (by kernel_rfl) rfl rfl rfl rfl rfl rfl rfl rfl (by kernel_rfl) rfl (by simp [Value.oneCell']) rfl rfl (by simp) (by simp) (by simp) rfl ?_ (by simp)
    refine ownWalk_fill (cs := ↑zrA) (cs' := ↑v) ⟨3, .ptr, (.cells ↑zrA 38), 5, (.cells ↑v 38)⟩ hok (by kernel_rfl) rfl rfl rfl rfl rfl rfl rfl rfl (by kernel_rfl) rfl (by simp [Value.oneCell']) rfl rfl (by simp) (by simp) (by simp) rfl ?_ (by simp)
    refine ownWalk_nil ?_
    intro w' hc0 hD
    have hb := hc0.nil_
    obtain ⟨hpage, hpa⟩ := hD.box.get (x := ⟨2, .ptr, (.cells ↑zrA 38), 4, (.cells ↑v 38)⟩) (o := (.cells ↑v 38)) (by simp) rfl rfl
    replace hpa : Blk _ _ _ _ := hpa
    obtain ⟨hpbge, hpb⟩ := hD.box.get (x := ⟨3, .ptr, (.cells ↑zrA 38), 5, (.cells ↑v 38)⟩) (o := (.cells ↑v 38)) (by simp) rfl rfl
    replace hpb : Blk _ _ _ _ := hpb
    have hpa_hpb := hD.box.apart (x := ⟨2, .ptr, (.cells ↑zrA 38), 4, (.cells ↑v 38)⟩) (y := ⟨3, .ptr, (.cells ↑zrA 38), 5, (.cells ↑v 38)⟩) (by simp) (by simp) (by simp) rfl rfl
    clear hD
    try simp only [List.drop_succ_cons, List.drop_zero]
    clear z_c0 z_c1 z_c2 z_c3 z_c4 z_c5 z_c6 z_c7 z_c8
    have hWge := hB.size
    clear c0 c1 c2 c3 c4 c5 c6 c7 c8
    replace hX3 := StA.below hX3 hb
    replace hY := StA.below hY hb
    replace hA3 := RAt.below hA3 hb
    replace hbx3 := hbx3.below hb hbx3.lt
    replace hB := hB.trans (hb.mono hB.size)
    clear hb hok hc0
    obtain ⟨W, rfl⟩ := is_ w'
    obtain ⟨c0, c1, c2, c3, c4, c5, c6, c7, c8⟩ := hbx3.all9
    obtain ⟨a0, a1, a2, a3, a4, a5, a6, a7, a8⟩ := hpa.all9
    obtain ⟨d0, d1, d2, d3, d4, d5, d6, d7, d8⟩ := hpb.all9
    clear c0 c1 c2 c3 c4 c5 c6 c7 c8 a0 a1 a2 a3 a4 a5 a6 a7 a8 d0 d1 d2 d3 d4 d5 d6 d7 d8
    have HT : Hid (Two w W g g2 hpab hpbb (1400 - 50 * 0) (1400 - 50 * 0) p q s s v v r r) := by
     have h1 := HWW.out
     have h2 := HWB.out
     refine ⟨HPG.out, HQG.out, hX3, hY, HHH.out.1, HHH.out.1, HHH.out.2.1.less (by omega), HHH.out.2.1.less (by omega), HHH.out.2.2, HHH.out.2.2, hpa, hpb, hA3.less fun k hk => ?_, hA3.less fun k hk => ?_, fun k k1 k2 => ?_, HNW.out, fun k hk => Nat.le_trans h1 (HQN.out k hk), ⟨hpa_hpb, by omega, by omega⟩, hB⟩
     ·rcases hk with h | h | h | h
      ·exact .inl h
      ·exact .inr (HQN.out k h)
      ·exact .inr (by omega)
      ·exact .inr (by omega)
     ·rcases hk with h | h | h | h
      ·exact .inl h
      ·exact .inr (HQN.out k h)
      ·exact .inr (by omega)
      ·exact .inr (by omega)
     ·have := HPLT.out k k1
      have := HQN.out k k2
      omega
    clear hX3 hY hA3 hbx3 hpa hpb hB HPG HHH HNW HQG HPLT HQN HWW HWB HB7 hpa_hpb hpage hpbge hWge
    go_upto_region 17 with fail
    go_loopw [14] (fun z wr => ∃ (j : Nat) (p q : Fp) (s t : SS) (v u : RV) (r o : RS), z = .int .i64 j ∧ j ≤ xs2.length + xs3.length ∧ Hid (Two w wr g g2 hpab hpbb (1400 - 50 * j) (1400 - 50 * j) p q s t v u r o)) (fun z _ => (xs2.length + xs3.length) - (intOf z).toNat)
    case atStart => exact ⟨0, p, q, s, s, v, v, r, r, rfl, Nat.zero_le _, HT⟩
    case round => as_aux_lemma =>
     clear HT
     obtain ⟨W, rfl⟩ := is_ wr
     obtain ⟨j, p, q, s, t, v, u, r, o, rfl, hj, HT⟩ := hrel
     by_cases hM : j < xs2.length ∨ j < xs3.length
     case neg =>
      have hB := HT.out.bel
      have n2 : ¬ (j : Int) < (xs2.length : Int) := by omega
      have n3 : ¬ (j : Int) < (xs3.length : Int) := by omega
      clear HT
      go_wp2_with fail
      refine (awake_any _).mono ?_
      rintro e W9 ⟨rfl, hb9⟩
      have hB9 := hB.trans (hb9.mono hB.size)
      go_wp2_with fail
      go_ret
      exact ⟨rfl, hB9⟩
     have ej : IntKind.i64.wrap ((j : Int) + 1) = ((j + 1 : Nat) : Int) := by rw [IntWalk.i64_in _ (by omega)]; push_cast; rfl
     by_cases h2 : j < xs2.length
     case' pos =>
      have h2i : (j : Int) < (xs2.length : Int) := by omega
      have hT := HT.out
      have hX := hT.x1
      have hI := hT.i1
      have hRM : Room s (1400 - 50 * (j + 1) + 50) := hT.m1.less (by omega)
      have hA := hT.a1
      have hR := hT.l1
      have hPP : (∀ k, QQ p q hpab hpbb k → k < W.heap.size) ∧ (∀ k, p.has k → QQ p q hpab hpbb k) ∧ QQ p q hpab hpbb hpab := ⟨hT.lt, fun k hk => .inl hk, .inr (.inr (.inl rfl))⟩
      have hbx := hT.b1
      have hpg := hT.e1
      have hold := hT.old
      have hB := hT.bel
      clear hT
      obtain ⟨x, fs, b, off, hAA, hbw, hd, hn, hfl, hfs, hof⟩ := call_facts HS2.out HI2.out (not_large HG2.out).2 hB hold j (by omega)
      have HXX := hide hX
      have HI := hide hI
      have HRM := hide hRM
      have HAX := hide hA
      have HR := hide hR
      have HPP := hide hPP
      have HBX := hide hbx
      have HPG := hide hpg
      have HNB := hide (hX.nhas hbx (by decide))
      have HBW : Hid (b < W.heap.size ∧ ¬ (p.has b ∨ b = hpab)) := ⟨Nat.lt_of_lt_of_le hbw hB.size, fun h => by
       have h9 : w.heap.size ≤ b := hold b (by
        rcases h with h | h
        ·exact hPP.2.1 b h
        ·rw [h]; exact hPP.2.2)
       omega⟩
      have HD := hide hd
      have HFN := hide hn
      have HFS := hide hfs
      have HOF := hide hof
      have HFL := hide hfl
      subst hAA
      clear hX hI hRM hA hR hPP hbx hpg hd hn hfs hof hfl hbw hold hB
      go_upto_region 21 with fail
      refine wp_region_cop (args := #[.pointer (some ⟨g, 0, none⟩), .agg ↑v, .agg ↑x]) (tg := 38) (old := ↑v) (g := hpab) (some 15) p.has (fun w0 => StA w0 p s) (CpR p (callF s x fs) (QQ p q hpab hpbb) W.heap.size) 12 94 99 92 100 101 (by kernel_rfl) (by kernel_rfl) (by kernel_rfl) (by kernel_rfl) (fun w0 w1 hb h => h.below hb) (fun u y w0 w1 hb h => h.below hb) (fun u y w0 w1 cs hB9 hc h => h.chg hB9 HPP.out.2.2 hc) (fun u y w0 ⟨_, _, v', _, h1, _⟩ => ⟨_, h1, rfl, by simp [Value.oneCell']⟩) HNB.out rfl rfl rfl rfl rfl rfl (fun d h => by cases h <;> exact ⟨_, rfl, rfl, rfl, rfl⟩) rfl rfl rfl rfl rfl rfl rfl rfl rfl rfl rfl rfl rfl rfl rfl rfl rfl ⟨by simp, by simp, by simp, by simp⟩ ⟨by decide, by decide⟩ ⟨by decide, by decide, by decide, by decide, by decide⟩ HBX.out (by kernel_rfl) HXX.out (load_rv v _ rfl) (fun _ _ => rfl) ?_
      apply Exists.intro
      refine ⟨fun W1 hc => ?_, ?_⟩
      ·obtain ⟨y0, y1, y2, y3, y4, y5, y6, y7, y8, y9, y10, y11, y12, y13, y14, y15, y16⟩ := sin_call x fun j u hu => (World.cell?_of_block (hc.block b HBW.out.1 HBW.out.2)).trans (HD.out j u hu)
       clear hc
       dsimp only [pick, List.filterMap, List.getElem?_cons_succ, List.getElem?_cons_zero]
       repeat (go_big_quiet_step (fail))
       exact wpQuiet_nil rfl
      refine ⟨rfl, by simp [Act.eval], by simp [Act.eval, Act.put], fun w0 hc0 hX0 => ?_, fun cs y w9 hc9 hR9 hs9 => ?_⟩
      ·rw [← HPG.out]
       exact cop_call p s _ v r x fs hpab W w0 hX0 HI.out (HRM.out.less (by omega)) HAX.out HR.out HPP.out.1 HPP.out.2.1 HPP.out.2.2 HFN.out HFS.out HOF.out HFL.out hc0
      obtain ⟨rfl, p', v', r', HT9⟩ := Two.call HT.out (call_inv HI.out x fs) (call_room HRM.out x fs) hc9 hR9 hs9
      dsimp only [cpN, cpAct, Act.put]
      simp only [List.setIfInBounds_toArray, List.set_cons_succ, List.set_cons_zero, List.drop_succ_cons, List.drop_zero]
      obtain ⟨p, s, v, r, HT⟩ : ∃ (a : Fp) (c : SS) (e : RV) (h : RS), Hid (Two w w9 g g2 hpab hpbb (1400 - 50 * (j + 1)) (1400 - 50 * j) a q c t e u h o) := ⟨p', _, v', r', HT9⟩
      clear HXX HI HRM HAX HR HPP HBX HPG HNB HBW HD HFN HFS HOF HFL hc9 hR9 hs9 HT9
      obtain ⟨W, rfl⟩ := is_ w9
      go_upto_region 22 with fail
     case' neg =>
      have h2i : ¬ (j : Int) < (xs2.length : Int) := by omega
      have h3i : (j : Int) < (xs3.length : Int) := by omega
      go_upto_region 22 with fail
      obtain ⟨p, s, v, r, HT⟩ : ∃ (a : Fp) (c : SS) (e : RV) (h : RS), Hid (Two w W g g2 hpab hpbb (1400 - 50 * (j + 1)) (1400 - 50 * j) a q c t e u h o) := ⟨p, s, v, r, HT.out.less (by omega) (Nat.le_refl _)⟩
      clear h3i
     all_goals as_aux_lemma =>
      clear h2i
      by_cases h3 : j < xs3.length
      case' pos =>
       have h3i : (j : Int) < (xs3.length : Int) := by omega
       obtain ⟨p, q, s, t, v, u, r, o, HT⟩ : ∃ (a b : Fp) (c d : SS) (e f : RV) (h k : RS), Hid (Two w W g2 g hpbb hpab (1400 - 50 * j) (1400 - 50 * (j + 1)) a b c d e f h k) := ⟨q, p, t, s, u, v, o, r, HT.out.swap⟩
       have hT := HT.out
       have hX := hT.x1
       have hI := hT.i1
       have hRM : Room s (1400 - 50 * (j + 1) + 50) := hT.m1.less (by omega)
       have hA := hT.a1
       have hR := hT.l1
       have hPP : (∀ k, QQ p q hpbb hpab k → k < W.heap.size) ∧ (∀ k, p.has k → QQ p q hpbb hpab k) ∧ QQ p q hpbb hpab hpbb := ⟨hT.lt, fun k hk => .inl hk, .inr (.inr (.inl rfl))⟩
       have hbx := hT.b1
       have hpg := hT.e1
       have hold := hT.old
       have hB := hT.bel
       clear hT
       obtain ⟨x, fs, b, off, hAA, hbw, hd, hn, hfl, hfs, hof⟩ := call_facts HS3.out HI3.out (not_large HG3.out).2 hB hold j (by omega)
       have HXX := hide hX
       have HI := hide hI
       have HRM := hide hRM
       have HAX := hide hA
       have HR := hide hR
       have HPP := hide hPP
       have HBX := hide hbx
       have HPG := hide hpg
       have HNB := hide (hX.nhas hbx (by decide))
       have HBW : Hid (b < W.heap.size ∧ ¬ (p.has b ∨ b = hpbb)) := ⟨Nat.lt_of_lt_of_le hbw hB.size, fun h => by
        have h9 : w.heap.size ≤ b := hold b (by
         rcases h with h | h
         ·exact hPP.2.1 b h
         ·rw [h]; exact hPP.2.2)
        omega⟩
       have HD := hide hd
       have HFN := hide hn
       have HFS := hide hfs
       have HOF := hide hof
       have HFL := hide hfl
       subst hAA
       clear hX hI hRM hA hR hPP hbx hpg hd hn hfs hof hfl hbw hold hB
       go_upto_region 23 with fail
       refine wp_region_cop (args := #[.pointer (some ⟨g2, 0, none⟩), .agg ↑v, .agg ↑x]) (tg := 38) (old := ↑v) (g := hpbb) (some 16) p.has (fun w0 => StA w0 p s) (CpR p (callF s x fs) (QQ p q hpbb hpab) W.heap.size) 13 108 113 106 114 115 (by kernel_rfl) (by kernel_rfl) (by kernel_rfl) (by kernel_rfl) (fun w0 w1 hb h => h.below hb) (fun u y w0 w1 hb h => h.below hb) (fun u y w0 w1 cs hB9 hc h => h.chg hB9 HPP.out.2.2 hc) (fun u y w0 ⟨_, _, v', _, h1, _⟩ => ⟨_, h1, rfl, by simp [Value.oneCell']⟩) HNB.out rfl rfl rfl rfl rfl rfl (fun d h => by cases h <;> exact ⟨_, rfl, rfl, rfl, rfl⟩) rfl rfl rfl rfl rfl rfl rfl rfl rfl rfl rfl rfl rfl rfl rfl rfl rfl ⟨by simp, by simp, by simp, by simp⟩ ⟨by decide, by decide⟩ ⟨by decide, by decide, by decide, by decide, by decide⟩ HBX.out (by kernel_rfl) HXX.out (load_rv v _ rfl) (fun _ _ => rfl) ?_
       apply Exists.intro
       refine ⟨fun W1 hc => ?_, ?_⟩
       ·obtain ⟨y0, y1, y2, y3, y4, y5, y6, y7, y8, y9, y10, y11, y12, y13, y14, y15, y16⟩ := sin_call x fun j u hu => (World.cell?_of_block (hc.block b HBW.out.1 HBW.out.2)).trans (HD.out j u hu)
        clear hc
        dsimp only [pick, List.filterMap, List.getElem?_cons_succ, List.getElem?_cons_zero]
        repeat (go_big_quiet_step (fail))
        exact wpQuiet_nil rfl
       refine ⟨rfl, by simp [Act.eval], by simp [Act.eval, Act.put], fun w0 hc0 hX0 => ?_, fun cs y w9 hc9 hR9 hs9 => ?_⟩
       ·rw [← HPG.out]
        exact cop_call p s _ v r x fs hpbb W w0 hX0 HI.out (HRM.out.less (by omega)) HAX.out HR.out HPP.out.1 HPP.out.2.1 HPP.out.2.2 HFN.out HFS.out HOF.out HFL.out hc0
       obtain ⟨rfl, p', v', r', HT9⟩ := Two.call HT.out (call_inv HI.out x fs) (call_room HRM.out x fs) hc9 hR9 hs9
       dsimp only [cpN, cpAct, Act.put]
       simp only [List.setIfInBounds_toArray, List.set_cons_succ, List.set_cons_zero, List.drop_succ_cons, List.drop_zero]
       obtain ⟨p, s, v, r, HT⟩ : ∃ (a : Fp) (c : SS) (e : RV) (h : RS), Hid (Two w w9 g2 g hpbb hpab (1400 - 50 * (j + 1)) (1400 - 50 * (j + 1)) a q c t e u h o) := ⟨p', _, v', r', HT9⟩
       clear HXX HI HRM HAX HR HPP HBX HPG HNB HBW HD HFN HFS HOF HFL hc9 hR9 hs9 HT9
       obtain ⟨W, rfl⟩ := is_ w9
       obtain ⟨p, q, s, t, v, u, r, o, HT⟩ : ∃ (a b : Fp) (c d : SS) (e f : RV) (h k : RS), Hid (Two w W g g2 hpab hpbb (1400 - 50 * (j + 1)) (1400 - 50 * (j + 1)) a b c d e f h k) := ⟨q, p, t, s, u, v, o, r, HT.out.swap⟩
       go_upto_region 24 with fail
      case' neg =>
       have h3i : ¬ (j : Int) < (xs3.length : Int) := by omega
       go_upto_region 24 with fail
       obtain ⟨q, t, u, o, HT⟩ : ∃ (a : Fp) (c : SS) (e : RV) (h : RS), Hid (Two w W g g2 hpab hpbb (1400 - 50 * (j + 1)) (1400 - 50 * (j + 1)) p a s c v e r h) := ⟨q, t, u, o, HT.out.less (Nat.le_refl _) (by omega)⟩
      all_goals as_aux_lemma =>
       clear h3i
       have hb1 := HT.out.b1
       have hb2 := HT.out.b2
       obtain ⟨c0, c1, c2, c3, c4, c5, c6, c7, c8⟩ := hb1.all9
       obtain ⟨e0, e1, e2, e3, e4, e5, e6, e7, e8⟩ := hb2.all9
       clear hb1 hb2
       go_wp2_with fail
       rw [← HT.out.e1]
       refine (alike_any p s _ v r W HT.out.x1 HT.out.i1 HT.out.m1.few HT.out.a1 HT.out.l1).mono ?_
       rintro e W11 ⟨rfl, hb11⟩
       rw [HT.out.e1]
       clear c0 c1 c2 c3 c4 c5 c6 c7 c8
       clear e0 e1 e2 e3 e4 e5 e6 e7 e8
       replace HT := hide (HT.out.below hb11)
       clear hb11
       have hb2 := HT.out.b2
       obtain ⟨e0, e1, e2, e3, e4, e5, e6, e7, e8⟩ := hb2.all9
       clear hb2
       go_wp2_with fail
       rw [← HT.out.e2]
       refine (alike_any q t _ u o W11 HT.out.x2 HT.out.i2 HT.out.m2.few HT.out.a2 HT.out.l2).mono ?_
       rintro e W12 ⟨rfl, hb12⟩
       rw [HT.out.e2]
       clear e0 e1 e2 e3 e4 e5 e6 e7 e8
       replace HT := hide (HT.out.below hb12)
       clear hb12
       go_wp2_with fail
       go_roundw
       case rel => exact ⟨j + 1, p, q, s, t, v, u, r, o, by go_num, by omega, HT⟩
       case measure => simp [intOf]; omega
end Go.Proofs.YtehlbomkldnalaaGreat
