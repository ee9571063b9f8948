/- Parts of the proofs of this seat: RfExp, RfRecall, RfCutP, RfCut, RfAll, RfLotP. Each part says what it proves; no condition beyond those stated there. -/
import Derived.Test.YtehlbomkldnalaaGreatQ10
import Derived.Test.YtehlbomkldnalaaGreatQ17
import Derived.Test.YtehlbomkldnalaaGreatQ21
import Derived.Test.YtehlbomkldnalaaGreatQ22
import Derived.Test.YtehlbomkldnalaaGreatQ24

/- The reference's Expire: the walk. -/
namespace Go.Proofs.YtehlbomkldnalaaGreat
open Go Go.RowKit
def LPost (P : Nat → Prop) (s : SS) (l : List Int) (w : World) (e : Ending) (w' : World) : Prop := ∃ (v2 : RV) (r2 : RS) (A : Option Addr) (c : Nat), e = .returned (.tuple #[.agg ↑v2, .slice A l.length c, .int .i64 0]) ∧ Slc intEnc 1 w' w'.heap.size A l ∧ RAt w' P v2 r2 ∧ Rel r2 s ∧ Below w.heap.size w w'
theorem rexpire_bad (v : RV) (r : RS) (P : Nat → Prop) (day : Int) (w : World) (h : RAt w P v r) (hd : inB 0 day 100000 = false) :
  Calls Tryz.prog 31 #[.agg ↑v, day] w fun e w' => e = .returned (.tuple #[.agg ↑v, .slice none 0 0, .int .i64 2]) ∧ Below w.heap.size w w' := by
 obtain ⟨hb, hr, hal, hsz⟩ := box2 w 38 38 ↑v ↑zrA
 have HW := hide hal
 go_enter Tryz.func31, Tryz.ntmps31
 go_upto_region 1 with fail
 generalize (w.alloc (.cells ↑v 38)).alloc (.cells ↑zrA 38) = W at *
 obtain ⟨c0, c1, c2, c3, c4, c5, c6, c7, c8⟩ := hb.all9
 clear hb hsz
 go_wp2_with fail
 refine (from_is _ _ _ _ hd).mono ?_
 rintro e W' ⟨rfl, rfl⟩
 clear hd
 obtain ⟨v2, rfl⟩ := is_ v
 go_wp2_with (refine wpList_store_blk rfl 38 _ _ rfl ↑v2 hr rfl rfl (by kernel_rfl) rfl (by simp [Value.oneCell']) ?_; intro W9 hr9 hc9; obtain ⟨q0, q1, q2, q3, q4, q5, q6, q7, q8⟩ := hr9.all9)
 refine bodyPost_ret (v := .tuple #[.agg ↑v2, .slice none 0 0, .int .i64 2]) (by simp [results, Tryz.results31, go_sem, q0, q1, q2, q3, q4, q5, q6, q7, q8]) rfl ?_
 exact ⟨rfl, hal.trans (hc9.below1 hal.size (by omega))⟩
set_option maxRecDepth 100000 in
set_option maxHeartbeats 4000000 in
theorem rexpire_any (v : RV) (r : RS) (s : SS) (P : Nat → Prop) (day : Int) (w : World) (h : RAt w P v r) (hR : Rel r s) (hI : Inv s) (hF : Few s) (hP : ∀ k, P k → k < w.heap.size) (hd : inB 0 day 100000 = true) :
  Calls Tryz.prog 31 #[.agg ↑v, day] w (LPost P (expS s day) (expL s day) w) := by
 have HIB : Hid (∀ x ∈ r.items, ItB x) := fun x hx => ((hI.it _ _ ((hR.it.m x).1 hx)).2).itb
 have HD := hide (inB_iff.1 hd)
 have HDB := hide hd
 have HH0 := hide h
 clear hd
 have HR := hide hR
 have HI := hide hI
 have HLN := hide (hR.lens hI hF)
 have HPP := hide hP
 obtain ⟨hb, hr, hal, hsz⟩ := box2 w 38 38 ↑v ↑zrA
 have HW := hide hal
 go_enter Tryz.func31, Tryz.ntmps31
 go_upto_region 1 with fail
 generalize (w.alloc (.cells ↑v 38)).alloc (.cells ↑zrA 38) = W at *
 have HH := hide (h.box hal)
 have HP2 : Hid (∀ k, PB P w.heap.size W.heap.size k → k < W.heap.size) := PB.lt hP hal.size
 have HSZ := hide hsz
 have HB := hide hb
 have HRB := hide hr
 clear hR hI hF h hP hal hsz
 obtain ⟨c0, c1, c2, c3, c4, c5, c6, c7, c8⟩ := hb.all9
 clear hb hr
 clear c0 c1 c2 c3 c4 c5 c6 c7 c8
 go_wp2_with fail
 refine (from_is _ _ _ _ HDB.out).mono ?_
 rintro e W' ⟨rfl, rfl⟩
 go_upto_region 5 with fail
 have hB := Below.refl W.heap.size W
 go_loopw [7, 8] (fun y z wr => ∃ (i : Nat) (ls : List Int), z = .int .i64 i ∧ i ≤ v.ni ∧ ls.length ≤ i ∧ Hid (ls = goneR r day (r.items.take i)) ∧ Own wr W.heap.size 3 1 intEnc y ls ∧ Below W.heap.size W wr) (fun _ z _ => v.ni - (intOf z).toNat)
 case atStart => exact ⟨0, [], rfl, Nat.zero_le _, Nat.le_refl _, rfl, Own.nil_, hB⟩
 case round =>
  clear hB
  obtain ⟨W0, rfl⟩ := is_ W
  obtain ⟨W, rfl⟩ := is_ wr
  obtain ⟨i, ls, rfl, hi, hll, HLS, hO, hB⟩ := hrel
  have hnl : v.ni ≤ 1000000 := by rw [HH.out.ni]; exact HLN.out.1
  have hbx := HB.out.below hB HB.out.lt
  obtain ⟨c0, c1, c2, c3, c4, c5, c6, c7, c8⟩ := hbx.all9
  clear hbx
  by_cases hlt : i < v.ni
  ·obtain ⟨x, hx⟩ : ∃ x, r.items[i]? = some x := ⟨_, List.getElem?_eq_getElem (by rw [← HH.out.ni]; exact hlt)⟩
   obtain ⟨hs, hsl, hrs⟩ := (HH.out.below hB).items
   obtain ⟨A', c', hh, _⟩ := hrs.at_ hx
   obtain ⟨b1, o1, hA1, _, d0, d1, d2, d3, d4, d5, d6, d7, d8⟩ := sh_at hsl hh
   have hii : (i : Int) < (v.ni : Int) := by omega
   have ei := wsuc i (by omega)
   have HT0 := hide (gone_take (r := r) (day := day) hx)
   have HX := hide (HIB.out x (List.mem_of_getElem? hx))
   have HRU : Hid (r.rules = ⟨v.mw, v.ml, v.l0, v.l1, v.l2⟩) := HH.out.ru
   have hsz := hB.size
   obtain ⟨v9, hv9⟩ : ∃ y : RV, y = { v with Ai := some ⟨b1, o1, none⟩ } := ⟨_, rfl⟩
   rw [hA1] at c6
   have HV9 := hide hv9
   clear hx hsl hrs hh hA1 hv9
   cases hq : oldF r.rules x day with
   | true =>
    have HT : Hid (ls ++ [x.id] = goneR r day (r.items.take (i + 1))) := by show _ = _; rw [HT0.out, if_pos hq, HLS.out]
    have HQ : Hid (decide (lifeF ⟨v.mw, v.ml, v.l0, v.l1, v.l2⟩ x.grade < day - x.made) = true) := by show _ = _; rw [← HRU.out]; exact hq
    clear hq
    go_wp2_with fail
    refine wp_region_q (by kernel_rfl) (by kernel_rfl) ?_
    dsimp only
    obtain ⟨y_c0, y_c1, y_c2, y_c3, y_c4, y_c5, y_c6, y_c7, y_c8⟩ := Since.c9 c0 c1 c2 c3 c4 c5 c6 c7 c8
    obtain ⟨y_d0, y_d1, y_d2, y_d3, y_d4, y_d5, y_d6, y_d7, y_d8⟩ := Since.c9 d0 d1 d2 d3 d4 d5 d6 d7 d8
    repeat (go_big_quiet_step ((go_at_call 63; exact Since.calls (rold_any { v with Ai := some ⟨b1, o1, none⟩ } (SH.of x A' c') day _ HX.out.g HX.out.m HD.out HQ.out))))
    refine wpQuiet_nil ?_
    rintro W ⟨⟨_, hb⟩, rfl⟩
    try dsimp only at hb ⊢
    replace c0 := sat y_c0 hb
    replace c1 := sat y_c1 hb
    replace c2 := sat y_c2 hb
    replace c3 := sat y_c3 hb
    replace c4 := sat y_c4 hb
    replace c5 := sat y_c5 hb
    replace c6 := sat y_c6 hb
    replace c7 := sat y_c7 hb
    replace c8 := sat y_c8 hb
    replace d0 := sat y_d0 hb
    replace d1 := sat y_d1 hb
    replace d2 := sat y_d2 hb
    replace d3 := sat y_d3 hb
    replace d4 := sat y_d4 hb
    replace d5 := sat y_d5 hb
    replace d6 := sat y_d6 hb
    replace d7 := sat y_d7 hb
    replace d8 := sat y_d8 hb
    clear y_c0 y_c1 y_c2 y_c3 y_c4 y_c5 y_c6 y_c7 y_c8 y_d0 y_d1 y_d2 y_d3 y_d4 y_d5 y_d6 y_d7 y_d8
    replace hO := hO.below hb
    replace hB := Below.trans hB (Below.mono hb (Below.size hB))
    clear hb
    go_wp2_with (at_builtin; refine wpList_app_own (base := W0.heap.size) (f := intEnc) (ys := [x.id]) _ _ rfl rfl et_ints (hO.alloc _) rfl rfl ((Blk.new W 3 #[x.id]).slc1 rfl) rfl (fun _ => rfl) intEnc_one (by simp <;> omega) (by have := hB.size; simp <;> omega) ?_; intro v6 W6 hO6 hb6 hg6)
    have hal := (Below.refl W.heap.size W).alloc (Nat.le_refl _) (.cells #[x.id] 3)
    replace hB := (hB.trans (hal.mono hB.size)).trans hb6
    clear hO hal hb6 hg6 hsz c0 c1 c2 c3 c4 c5 c6 c7 c8 d0 d1 d2 d3 d4 d5 d6 d7 d8
    go_roundw
    case rel => exact ⟨i + 1, ls ++ [x.id], by go_num, by omega, by simp; omega, HT, hO6, hB⟩
    case measure => simp [intOf]; omega
   | false =>
    have HT : Hid (ls = goneR r day (r.items.take (i + 1))) := by show _ = _; rw [HT0.out, if_neg (by rw [hq]; decide), List.append_nil]; exact HLS.out
    have HQ : Hid (decide (lifeF ⟨v.mw, v.ml, v.l0, v.l1, v.l2⟩ x.grade < day - x.made) = false) := by show _ = _; rw [← HRU.out]; exact hq
    clear hq
    go_wp2_with fail
    refine wp_region_q (by kernel_rfl) (by kernel_rfl) ?_
    dsimp only
    obtain ⟨y_c0, y_c1, y_c2, y_c3, y_c4, y_c5, y_c6, y_c7, y_c8⟩ := Since.c9 c0 c1 c2 c3 c4 c5 c6 c7 c8
    obtain ⟨y_d0, y_d1, y_d2, y_d3, y_d4, y_d5, y_d6, y_d7, y_d8⟩ := Since.c9 d0 d1 d2 d3 d4 d5 d6 d7 d8
    repeat (go_big_quiet_step ((go_at_call 63; exact Since.calls (rold_any { v with Ai := some ⟨b1, o1, none⟩ } (SH.of x A' c') day _ HX.out.g HX.out.m HD.out HQ.out))))
    refine wpQuiet_nil ?_
    rintro W ⟨⟨_, hb⟩, rfl⟩
    try dsimp only at hb ⊢
    replace c0 := sat y_c0 hb
    replace c1 := sat y_c1 hb
    replace c2 := sat y_c2 hb
    replace c3 := sat y_c3 hb
    replace c4 := sat y_c4 hb
    replace c5 := sat y_c5 hb
    replace c6 := sat y_c6 hb
    replace c7 := sat y_c7 hb
    replace c8 := sat y_c8 hb
    replace d0 := sat y_d0 hb
    replace d1 := sat y_d1 hb
    replace d2 := sat y_d2 hb
    replace d3 := sat y_d3 hb
    replace d4 := sat y_d4 hb
    replace d5 := sat y_d5 hb
    replace d6 := sat y_d6 hb
    replace d7 := sat y_d7 hb
    replace d8 := sat y_d8 hb
    clear y_c0 y_c1 y_c2 y_c3 y_c4 y_c5 y_c6 y_c7 y_c8 y_d0 y_d1 y_d2 y_d3 y_d4 y_d5 y_d6 y_d7 y_d8
    replace hO := hO.below hb
    replace hB := Below.trans hB (Below.mono hb (Below.size hB))
    clear hb
    go_wp2_with fail
    clear hsz c0 c1 c2 c3 c4 c5 c6 c7 c8 d0 d1 d2 d3 d4 d5 d6 d7 d8
    go_roundw
    case rel => exact ⟨i + 1, ls, by go_num, by omega, by omega, HT, hO, hB⟩
    case measure => simp [intOf]; omega
  ·obtain rfl : i = v.ni := by omega
   have HLS2 : Hid (ls = expL s day) := by show _ = _; rw [HLS.out, List.take_of_length_le (by rw [HH.out.ni]; exact Nat.le_refl _), gone_is HR.out HI.out]
   have hlb : ls.length ≤ 1000000 := by omega
   obtain ⟨A, c, rfl, hsl⟩ := hO.form (fun _ => rfl)
   have HSL := hide hsl
   have HOA : Hid (∀ ad, A = some ad → W0.heap.size ≤ ad.block) := hO.from_ (Nat.le_refl _)
   have hbx := HB.out.below hB HB.out.lt
   have hr := HRB.out.below hB HRB.out.lt
   have hA := HH.out.below hB
   have HBW := hide hB
   have hwa : w.heap.size + 2 ≤ W0.heap.size := by have := HSZ.out; omega
   clear HLS hO hsl hB
   go_upto_region 10 with fail
   clear c0 c1 c2 c3 c4 c5 c6 c7 c8
   go_loopw [9] (fun z wr => ∃ (i : Nat) (v2 : RV), z = .int .i64 i ∧ i ≤ ls.length ∧ Blk wr w.heap.size 38 ↑v2 ∧ Blk wr (w.heap.size + 1) 38 ↑zrA ∧ RAt wr (PB P w.heap.size W0.heap.size) v2 (r.woI (ls.take i)) ∧ Chg (fun k => k = w.heap.size) W wr) (fun z _ => ls.length - (intOf z).toNat)
   case atStart => exact ⟨0, v, rfl, Nat.zero_le _, hbx, hr, hA, Chg.refl _ _⟩
   case round =>
    clear hbx hr hA
    obtain ⟨Wb, rfl⟩ := is_ W
    obtain ⟨W, rfl⟩ := is_ wr
    obtain ⟨i, v2, rfl, hi, hs, hr, hA, hC⟩ := hrel
    have hsl := HSL.out.chgO hC (fun _ ad ha hk => by have := HOA.out ad ha; have hk2 : ad.block = w.heap.size := hk; omega)
    by_cases hlt : i < ls.length
    ·obtain ⟨k, bK, oK, hk, hAK, hbK, d0⟩ := ints_at' hsl hlt
     have hii : (i : Int) < (ls.length : Int) := by omega
     have ei := wsuc i (by omega)
     have HT := hide (woI_take (r := r) hk)
     have HSB := hide hs
     have HA := hide hA
     have D0 := hide d0
     have HPC : Hid (∀ k, PB P w.heap.size W0.heap.size k → k < W.heap.size) := fun k hk => by have := HP2.out k hk; have := HBW.out.size; have := hC.size; omega
     have HCC := hide hC
     have HRR := hide hr
     subst hAK
     clear hk hsl hs hA d0 hC hr
     go_upto_region 12 with fail
     refine wp_region_call1 (args := #[.agg #[.int .i64 v2.mw, .int .i64 v2.ml, .int .i64 v2.l0, .int .i64 v2.l1, .int .i64 v2.l2, .slice v2.Ar v2.nr v2.cr, .slice v2.Ai v2.ni v2.ci, .slice v2.Ap v2.np v2.cp, .slice v2.Al v2.nl v2.cl], k]) 6 5 [0, 1, 2, 3, 4] (RIs (PB P w.heap.size W0.heap.size) ((r.woI (ls.take i)).without k)) (by kernel_rfl) (by kernel_rfl) (by kernel_rfl) (by kernel_rfl) (fun u w w' hb ⟨v2, h1, h2⟩ => ⟨v2, h1, h2.below hb⟩) rfl rfl rfl (fun _ _ => rfl) ?_
     apply Exists.intro
     refine ⟨fun W1 hc => ?_, ?_⟩
     ·have hx1 := HSB.out.below hc HSB.out.lt
      obtain ⟨y_c0, y_c1, y_c2, y_c3, y_c4, y_c5, y_c6, y_c7, y_c8⟩ := hx1.sin9
      have y_d0 := Since.cell (Since.later hc D0.out)
      clear hx1
      dsimp only [pick, List.filterMap, List.getElem?_cons_succ, List.getElem?_cons_zero]
      repeat (go_big_quiet_step (fail))
      exact wpQuiet_nil rfl
     refine ⟨by simp [Act.eval], rfl, fun w1 hb1 => ?_, fun u w8 hb8 ⟨v3, hu, hx⟩ => ?_⟩
     ·refine (without_any v2 (r.woI (ls.take i)) _ k w1 (HA.out.below hb1) (fun k hk => Nat.lt_of_lt_of_le (HPC.out k hk) hb1.size) (Nat.le_trans (woI_len _ _) HLN.out.1)).mono ?_
      rintro e w3 ⟨v3, rfl, h1, h2⟩
      exact ⟨_, rfl, ⟨v3, rfl, h1⟩, h2⟩
     subst hu
     have hs8 := HSB.out.below hb8 HSB.out.lt
     have hr8 := HRR.out.below hb8 HRR.out.lt
     have hC8 := HCC.out.trans (.of_below hb8)
     dsimp only [Act.put]
     simp only [List.setIfInBounds_toArray, List.set_cons_succ, List.set_cons_zero, List.drop_succ_cons, List.drop_zero]
     go_wp2_with (refine wpList_store_blk rfl 38 _ _ rfl ↑v3 hs8 rfl rfl (by kernel_rfl) rfl (by simp [Value.oneCell']) ?_; intro W9 hs9 hc9)
     have hA9 := hx.chg (hc9.mono fun k _ hk => by subst hk; exact .inr ⟨Nat.le_refl _, by omega⟩)
     rw [← HT.out] at hA9
     have hr9 := hr8.chg1 hc9 (by omega)
     have hC9 := hC8.trans hc9
     clear hs8 hr8 hC8 hc9 hx hb8
     go_roundw
     case rel => exact ⟨i + 1, v3, by go_num, by omega, hs9, hr9, hA9, hC9⟩
     case measure => simp [intOf]; omega
    ·obtain rfl : i = ls.length := by omega
     rw [List.take_length] at hA
     have HAX := hide hA
     have HCC := hide hC
     have HSX := hide hsl
     have hwb := HBW.out.size
     have hwc := hC.size
     obtain ⟨c0, c1, c2, c3, c4, c5, c6, c7, c8⟩ := hs.all9
     clear hs hA hC hsl
     go_wp2_with (refine wpList_store_blk rfl 38 _ _ rfl ↑v2 hr rfl rfl (by kernel_rfl) rfl (by simp [Value.oneCell']) ?_; intro W9 hr9 hc9; obtain ⟨q0, q1, q2, q3, q4, q5, q6, q7, q8⟩ := hr9.all9)
     refine bodyPost_ret (v := .tuple #[.agg ↑v2, .slice A ls.length c, .int .i64 0]) (by simp [results, Tryz.results31, go_sem, q0, q1, q2, q3, q4, q5, q6, q7, q8]) rfl ?_
     have hB9 : Below w.heap.size w W9 := ((HW.out.trans (HBW.out.mono HW.out.size)).trans (HCC.out.below1 (by omega) (Nat.le_refl _))).trans (hc9.below1 (by omega) (by omega))
     have hA9 : RAt W9 P v2 (r.woI (expL s day)) := by
      rw [← HLS2.out]
      exact HAX.out.unbox hc9 ⟨by omega, by omega⟩
     have hsl9 := HSX.out.chgO hc9 (fun _ ad ha hk => by have := HOA.out ad ha; have hk2 : ad.block = w.heap.size + 1 := hk; omega)
     exact ⟨v2, _, A, c, by rw [HLS2.out], by rw [← HLS2.out]; exact hsl9, hA9, rel_expire HR.out HI.out day, hB9⟩
end Go.Proofs.YtehlbomkldnalaaGreat

/- The reference's Recall: the walk. -/
namespace Go.Proofs.YtehlbomkldnalaaGreat
open Go Go.RowKit
theorem Rel.nolot {r : RS} {s : SS} (h : Rel r s) {lot : Int} (hn : look s.lots lot = none) : r.lotR lot = none := by
 have := h.lo lot
 rw [hn] at this
 cases hg : r.lotR lot with
 | none => rfl
 | some g => rw [hg] at this; cases this
theorem rrecall_bad (v : RV) (r : RS) (s : SS) (P : Nat → Prop) (lot : Int) (w : World) (h : RAt w P v r) (hR : Rel r s) (hI : Inv s) (hF : Few s) (hP : ∀ k, P k → k < w.heap.size) (hn : look s.lots lot = none) :
  Calls Tryz.prog 33 #[.agg ↑v, lot] w fun e w' => e = .returned (.tuple #[.agg ↑v, .slice none 0 0, .int .i64 5]) ∧ Below w.heap.size w w' := by
 have HLO := hide (hR.nolot hn)
 clear hn
 have HR := hide hR
 have HI := hide hI
 have HLN := hide (hR.lens hI hF)
 have HPP := hide hP
 obtain ⟨hb, hr, hal, hsz⟩ := box2 w 38 38 ↑v ↑zrA
 have HW := hide hal
 go_enter Tryz.func33, Tryz.ntmps33
 go_upto_region 1 with fail
 generalize (w.alloc (.cells ↑v 38)).alloc (.cells ↑zrA 38) = W at *
 have HH := hide (h.box hal)
 have HP2 : Hid (∀ k, PB P w.heap.size W.heap.size k → k < W.heap.size) := PB.lt hP hal.size
 have HSZ := hide hsz
 have HB := hide hb
 have HRB := hide hr
 clear hR hI hF h hP hal hsz
 obtain ⟨c0, c1, c2, c3, c4, c5, c6, c7, c8⟩ := hb.all9
 clear hb hr
 go_wp2_with fail
 refine (lot_any v r _ lot W HH.out HLN.out.2.2.2.1 none HLO.out).mono ?_
 rintro e W1 ⟨⟨g, rfl, hgg⟩, hb1⟩
 clear hgg
 go_upto_region 3 with fail
 have hal := (Below.refl W1.heap.size W1).alloc (Nat.le_refl _) (.cells #[g.id, g.gr, g.co, g.lo, g.ma, g.wi, g.le, .slice g.A g.n g.c] 43)
 generalize W1.alloc (.cells #[g.id, g.gr, g.co, g.lo, g.ma, g.wi, g.le, .slice g.A g.n g.c] 43) = W2 at *
 have hB2 := hb1.trans (hal.mono hb1.size)
 clear hb1 hal
 clear c0 c1 c2 c3 c4 c5 c6 c7 c8
 have hbx := HB.out.below hB2 HB.out.lt
 obtain ⟨c0, c1, c2, c3, c4, c5, c6, c7, c8⟩ := hbx.all9
 clear hbx
 have hr := HRB.out.below hB2 HRB.out.lt
 have hBB := HW.out.trans (hB2.mono HW.out.size)
 obtain ⟨v2, rfl⟩ := is_ v
 go_wp2_with (refine wpList_store_blk rfl 38 _ _ rfl ↑v2 hr rfl rfl (by kernel_rfl) rfl (by simp [Value.oneCell']) ?_; intro W9 hr9 hc9; obtain ⟨q0, q1, q2, q3, q4, q5, q6, q7, q8⟩ := hr9.all9)
 refine bodyPost_ret (v := .tuple #[.agg ↑v2, .slice none 0 0, .int .i64 5]) (by simp [results, Tryz.results33, go_sem, q0, q1, q2, q3, q4, q5, q6, q7, q8]) rfl ?_
 exact ⟨rfl, hBB.trans (hc9.below1 hBB.size (by omega))⟩
set_option maxRecDepth 100000 in
set_option maxHeartbeats 4000000 in
theorem rrecall_any (v : RV) (r : RS) (s : SS) (P : Nat → Prop) (lot : Int) (w : World) (h : RAt w P v r) (hR : Rel r s) (hI : Inv s) (hF : Few s) (hP : ∀ k, P k → k < w.heap.size) {kn : Kin} (hk : look s.lots lot = some kn) :
  Calls Tryz.prog 33 #[.agg ↑v, lot] w (LPost P (rec2 s lot) (usesF (recU s lot)) w) := by
 obtain ⟨g0, hg0, _⟩ := hR.made hk
 have HLO := hide hg0
 clear hg0 hk
 have HR := hide hR
 have HI := hide hI
 have HLN := hide (hR.lens hI hF)
 have HPP := hide hP
 obtain ⟨hb, hr, hal, hsz⟩ := box2 w 38 38 ↑v ↑zrA
 have HW := hide hal
 go_enter Tryz.func33, Tryz.ntmps33
 go_upto_region 1 with fail
 generalize (w.alloc (.cells ↑v 38)).alloc (.cells ↑zrA 38) = W at *
 have HH := hide (h.box hal)
 have HP2 : Hid (∀ k, PB P w.heap.size W.heap.size k → k < W.heap.size) := PB.lt hP hal.size
 have HSZ := hide hsz
 have HB := hide hb
 have HRB := hide hr
 clear hR hI hF h hP hal hsz
 obtain ⟨c0, c1, c2, c3, c4, c5, c6, c7, c8⟩ := hb.all9
 clear hb hr
 go_wp2_with fail
 refine (lot_any v r _ lot W HH.out HLN.out.2.2.2.1 (some g0) HLO.out).mono ?_
 rintro e W1 ⟨⟨g, rfl, hgg⟩, hb1⟩
 clear hgg
 go_upto_region 4 with fail
 have hal := (Below.refl W1.heap.size W1).alloc (Nat.le_refl _) (.cells #[g.id, g.gr, g.co, g.lo, g.ma, g.wi, g.le, .slice g.A g.n g.c] 43)
 generalize W1.alloc (.cells #[g.id, g.gr, g.co, g.lo, g.ma, g.wi, g.le, .slice g.A g.n g.c] 43) = W2 at *
 have hB2 := hb1.trans (hal.mono hb1.size)
 clear hb1 hal
 clear c0 c1 c2 c3 c4 c5 c6 c7 c8
 have hbx := HB.out.below hB2 HB.out.lt
 obtain ⟨c0, c1, c2, c3, c4, c5, c6, c7, c8⟩ := hbx.all9
 clear hbx
 have hr := HRB.out.below hB2 HRB.out.lt
 have hBB := HW.out.trans (hB2.mono HW.out.size)
 have hbo0 := Blk.new W2 38 ↑v
 have hal := (Below.refl W2.heap.size W2).alloc (Nat.le_refl _) (.cells ↑v 38)
 have hbx := HB.out.below hB2 HB.out.lt
 have hwb : w.heap.size + 2 ≤ W2.heap.size := by have := hB2.size; have := HSZ.out; omega
 go_upto_region 7 with fail
 have hsz3 : (W2.alloc (.cells ↑v 38)).heap.size = W2.heap.size + 1 := by simp
 have hA20 := HH.out.below hB2
 obtain ⟨bo, hboe⟩ := nm_ W2.heap.size
 have HP2W : Hid (∀ k, PB P w.heap.size W.heap.size k → k < bo) := fun k hk => by have := HP2.out k hk; have := hB2.size; omega
 have hA3 : RAt (W2.alloc (.cells ↑v 38)) (fun k => PB P w.heap.size W.heap.size k ∨ k = bo) v r :=
  (hA20.more (P' := fun k => PB P w.heap.size W.heap.size k ∨ k = bo) fun k hk => by rcases hk with h | h; exact .inl h; exact .inr (by omega)).below hal
 have hs3 := hbx.below hal hbx.lt
 have hr3 := hr.below hal hr.lt
 have hBB3 := hBB.trans (hal.mono hBB.size)
 rw [hboe] at hbo0 hsz3 hwb ⊢
 generalize W2.alloc (.cells ↑v 38) = W3 at *
 have HA3 := hide hA3
 have HS3 := hide hs3
 have HR3 := hide hr3
 have HB3 := hide hBB3
 have HSZ3 := hide hsz3
 have HWB := hide hwb
 obtain ⟨P2, hP2⟩ : ∃ Q : Nat → Prop, (fun k => PB P w.heap.size W.heap.size k ∨ k = bo) = Q := ⟨_, rfl⟩
 have HPE := hide hP2
 rw [hP2] at HA3
 have HIN : Hid (P2 bo) := by show P2 bo; rw [← hP2]; exact .inr rfl
 have HP3 : Hid (∀ k, P2 k → k < W3.heap.size) := fun k hk => by
  rw [← hP2] at hk
  rcases hk with h | h
  ·have := HP2W.out k h; omega
  ·omega
 clear c0 c1 c2 c3 c4 c5 c6 c7 c8
 clear hbx hal hr hBB hB2 hA20 hA3 hs3 hr3 hBB3 hboe hP2 hsz3
 go_loopw [11] (fun z wr => ∃ (i : Nat) (vo : RV), z = .int .i64 i ∧ i ≤ v.ni ∧ Blk wr bo 38 ↑vo ∧ RAt wr P2 vo (recI lot (r.items.take i) r) ∧ Chg (fun k => k = bo) W3 wr) (fun z _ => v.ni - (intOf z).toNat)
 case atStart => exact ⟨0, v, rfl, Nat.zero_le _, hbo0, HA3.out, Chg.refl _ _⟩
 case round =>
  clear hbo0
  obtain ⟨W0, rfl⟩ := is_ W
  obtain ⟨W, rfl⟩ := is_ wr
  obtain ⟨i, vo, rfl, hi, hbo, hA, hC⟩ := hrel
  have hnl : v.ni ≤ 1000000 := by rw [HH.out.ni]; exact HLN.out.1
  have hs := HS3.out.chg1 hC (by have := HWB.out; omega)
  have hAs := HA3.out.chg (hC.mono fun k _ hk => by subst hk; exact HIN.out)
  have s6 := hs.cell_ 6 (v := .slice v.Ai v.ni v.ci) rfl
  by_cases hlt : i < v.ni
  ·obtain ⟨x, hx⟩ : ∃ x, r.items[i]? = some x := ⟨_, List.getElem?_eq_getElem (by rw [← HH.out.ni]; exact hlt)⟩
   obtain ⟨hs', hsl, hrs⟩ := hAs.items
   obtain ⟨A', c', hh, _⟩ := hrs.at_ hx
   obtain ⟨b1, o1, hA1, _, d0, _, _, _, d4, _, _, _, _⟩ := sh_at hsl hh
   have hii : (i : Int) < (v.ni : Int) := by omega
   have ei := wsuc i (by omega)
   have HT0 := hide (recI_take (lot := lot) (r := r) hx)
   have HA1 := hide hA1
   rw [hA1] at s6
   clear hx hsl hrs hh hA1 hAs
   by_cases h1 : x.lot = lot
   ·have HT : Hid (recI lot (r.items.take (i + 1)) r = (recI lot (r.items.take i) r).without x.id) := by show _ = _; rw [HT0.out, if_pos h1]
    have HLI : Hid ((recI lot (r.items.take i) r).items.length ≤ 1000000) := by show _ ≤ _; rw [recI_is]; exact Nat.le_trans (List.length_filter_le _ _) HLN.out.1
    have S6 := hide s6
    have D0 := hide d0
    have HSB := hide hbo
    have HA := hide hA
    have HCC := hide hC
    have HPC : Hid (∀ k, P2 k → k < W.heap.size) := fun k hk => Nat.lt_of_lt_of_le (HP3.out k hk) hC.size
    go_upto_region 10 with fail
    clear s6 d0 d4 hbo hA hC hs h1
    refine wp_region_call1 (args := #[.agg ↑vo, x.id]) 8 7 [0, 1, 2, 3, 4, 5, 6] (RIs P2 ((recI lot (r.items.take i) r).without x.id)) (by kernel_rfl) (by kernel_rfl) (by kernel_rfl) (by kernel_rfl) (fun u w w' hb ⟨v2, h1, h2⟩ => ⟨v2, h1, h2.below hb⟩) rfl rfl rfl (fun _ _ => rfl) ?_
    apply Exists.intro
    refine ⟨fun W1 hc => ?_, ?_⟩
    ·have hx1 := HSB.out.below hc HSB.out.lt
     obtain ⟨y_c0, y_c1, y_c2, y_c3, y_c4, y_c5, y_c6, y_c7, y_c8⟩ := hx1.sin9
     have y_s6 := Since.cell (Since.later hc S6.out)
     have y_d0 := Since.cell (Since.later hc D0.out)
     clear hx1
     dsimp only [pick, List.filterMap, List.getElem?_cons_succ, List.getElem?_cons_zero]
     repeat (go_big_quiet_step (fail))
     exact wpQuiet_nil rfl
    refine ⟨by simp [Act.eval], rfl, fun w1 hb1 => ?_, fun u w8 hb8 ⟨v3, hu, hx⟩ => ?_⟩
    ·refine (without_any vo _ _ x.id w1 (HA.out.below hb1) (fun k hk => Nat.lt_of_lt_of_le (HPC.out k hk) hb1.size) HLI.out).mono ?_
     rintro e w3 ⟨v3, rfl, h1, h2⟩
     exact ⟨_, rfl, ⟨v3, rfl, h1⟩, h2⟩
    subst hu
    have hs8 := HSB.out.below hb8 HSB.out.lt
    have hC8 := HCC.out.trans (.of_below hb8)
    dsimp only [Act.put]
    simp only [List.setIfInBounds_toArray, List.set_cons_succ, List.set_cons_zero, List.drop_succ_cons, List.drop_zero]
    go_wp2_with (refine wpList_store_blk rfl 38 _ _ rfl ↑v3 hs8 rfl rfl (by kernel_rfl) rfl (by simp [Value.oneCell']) ?_; intro W9 hs9 hc9)
    have hA9 := hx.chg (hc9.mono fun k _ hk => by subst hk; exact HIN.out)
    rw [← HT.out] at hA9
    have hC9 := hC8.trans hc9
    clear hs8 hC8 hc9 hx hb8
    go_roundw
    case rel => exact ⟨i + 1, v3, by go_num, by omega, hs9, hA9, hC9⟩
    case measure => simp [intOf]; omega
   ·have HT : Hid (recI lot (r.items.take (i + 1)) r = recI lot (r.items.take i) r) := by show _ = _; rw [HT0.out, if_neg h1]
    go_wp2_with fail
    clear s6 d0 d4 hs
    go_roundw
    case rel => exact ⟨i + 1, vo, by go_num, by omega, hbo, by rw [HT.out]; exact hA, hC⟩
    case measure => simp [intOf]; omega
  ·obtain rfl : i = v.ni := by omega
   obtain ⟨r1, hr1⟩ := nm_ (recI lot r.items r)
   have HRE := hide hr1
   have HA1 : Hid (RAt W P2 vo r1) := by
    have := hA
    rw [List.take_of_length_le (by rw [HH.out.ni]; exact Nat.le_refl _), hr1] at this
    exact this
   have HPL : Hid (r1.pieces.length ≤ 1000000) := by show _ ≤ _; rw [← hr1, recI_is]; exact HLN.out.2.1
   have HBO := hide hbo
   have HCC := hide hC
   clear hA hr1 hAs hbo hC hs
   go_upto_region 12 with fail
   clear s6
   go_loopw [10, 12] (fun y z wr => ∃ (i : Nat) (vo : RV) (A : Option Addr) (c : Nat) (us : List Int), y = .slice A us.length c ∧ z = .int .i64 i ∧ i ≤ v.np ∧ Hid (us = usesR lot (r.pieces.take i)) ∧ us.length ≤ i ∧ Slc intEnc 1 wr wr.heap.size A us ∧ Hid (∀ ad, A = some ad → bo < ad.block) ∧ Blk wr bo 38 ↑vo ∧ RAt wr P2 vo (recP lot (r.pieces.take i) r1) ∧ Chg (fun k => k = bo) W3 wr) (fun _ z _ => v.np - (intOf z).toNat)
   case atStart => exact ⟨0, vo, none, 0, [], rfl, rfl, Nat.zero_le _, rfl, Nat.le_refl _, Slc.nil_, (fun ad h => by cases h), HBO.out, HA1.out, HCC.out⟩
   case round =>
    clear HBO HA1 HCC
    obtain ⟨W, rfl⟩ := is_ wr
    obtain ⟨i, vo, A, c, us, rfl, rfl, hi, HUS, hul, hsl, HAB, hbo, hA, hC⟩ := hrel
    have hnp : v.np ≤ 1000000 := by rw [HH.out.np]; exact HLN.out.2.1
    have hs := HS3.out.chg1 hC (by have := HWB.out; omega)
    have hAs := HA3.out.chg (hC.mono fun k _ hk => by subst hk; exact HIN.out)
    have s7 := hs.cell_ 7 (v := .slice v.Ap v.np v.cp) rfl
    clear hs
    by_cases hlt : i < v.np
    ·obtain ⟨x, hx⟩ : ∃ x, r.pieces[i]? = some x := ⟨_, List.getElem?_eq_getElem (by rw [← HH.out.np]; exact hlt)⟩
     obtain ⟨b1, o1, hA1, _, d0, d1, d2, d3, d4, d5, d6, d7⟩ := pce_at hAs.pieces hx
     have hii : (i : Int) < (v.np : Int) := by omega
     have ei := wsuc i (by omega)
     have HT0 := hide (recP_take (lot := lot) (r := r1) hx)
     have HU0 := hide (usesR_take (lot := lot) hx)
     rw [hA1] at s7
     clear hx hA1 hAs
     have hpx := Blk.new W 96 ↑x
     have hal := (Below.refl W.heap.size W).alloc (Nat.le_refl _) (.cells ↑x 96)
     go_upto_region 15 with fail
     clear s7 d0 d1 d2 d3 d4 d5 d6 d7
     obtain ⟨bx, hbxe⟩ := nm_ W.heap.size
     have hbo0 := hbo
     replace hsl := Slc.on hsl hal
     replace hbo := hbo.below hal hbo.lt
     replace hA := hA.below hal
     replace hC := hC.trans (.of_below hal)
     have hbxo : bo < bx := by have := hbo0.lt; omega
     rw [hbxe] at hpx ⊢
     generalize W.alloc (.cells ↑x 96) = W5 at *
     clear hal hbxe hbo0
     have z0 := hpx.cell_ 0 (v := x.id) rfl
     have z2 := hpx.cell_ 2 (v := x.lot) rfl
     have z7 := hpx.cell_ 7 (v := x.use) rfl
     by_cases h1 : x.lot = lot
     case neg =>
      have HT : Hid (recP lot (r.pieces.take (i + 1)) r1 = recP lot (r.pieces.take i) r1) := by show _ = _; rw [HT0.out, if_neg (fun h => h1 h.1)]
      have HU : Hid (us = usesR lot (r.pieces.take (i + 1))) := by show _ = _; rw [HU0.out, if_neg (fun h => h1 h.1)]; exact HUS.out
      go_wp2_with fail
      clear z0 z2 z7 hpx
      rw [← HT.out] at hA
      go_roundw
      case rel => exact ⟨i + 1, vo, A, c, us, rfl, by go_num, by omega, HU, by omega, hsl, HAB, hbo, hA, hC⟩
      case measure => simp [intOf]; omega
     by_cases hu : x.use = 0
     ·have HT : Hid (recP lot (r.pieces.take (i + 1)) r1 = (recP lot (r.pieces.take i) r1).dropped x.id) := by show _ = _; rw [HT0.out, if_pos ⟨h1, hu⟩]
      have HU : Hid (us = usesR lot (r.pieces.take (i + 1))) := by show _ = _; rw [HU0.out, if_neg (fun h => h.2 hu)]; exact HUS.out
      have HLP : Hid ((recP lot (r.pieces.take i) r1).pieces.length ≤ 1000000) := by show _ ≤ _; rw [recP_is]; exact Nat.le_trans (List.length_filter_le _ _) HPL.out
      obtain ⟨c0, c1, c2, c3, c4, c5, c6, c7, c8⟩ := hbo.all9
      go_wp2_with fail
      refine (dropped_any vo _ _ x.id W5 hA (fun k hk => Nat.lt_of_lt_of_le (HP3.out k hk) hC.size) HLP.out).mono ?_
      rintro e W6 ⟨v3, rfl, hA6, hb6⟩
      clear c0 c1 c2 c3 c4 c5 c6 c7 c8
      replace hsl := Slc.on hsl hb6
      replace hbo := hbo.below hb6 hbo.lt
      replace hC := hC.trans (.of_below hb6)
      replace hpx := hpx.below hb6 hpx.lt
      rw [← HT.out] at hA6
      clear hA z0 z2 z7 hb6
      go_upto_region 17 with (refine wpList_store_blk rfl 38 _ _ rfl ↑v3 hbo rfl rfl (by kernel_rfl) rfl (by simp [Value.oneCell']) ?_; intro W7 hs7 hc7)
      try dsimp only [Act.put]
      have hA := hA6.chg (hc7.mono fun k _ hk => by subst hk; exact HIN.out)
      replace hC := hC.trans hc7
      replace hsl := hsl.chgO hc7 (fun _ ad ha hk => by have := HAB.out ad ha; have hk2 : ad.block = bo := hk; omega)
      replace hpx := hpx.chg1 hc7 (by
       intro he
       omega)
      have hbo := hs7
      have z2 := hpx.cell_ 2 (v := x.lot) rfl
      have z7 := hpx.cell_ 7 (v := x.use) rfl
      clear hc7 hA6 hs7 hpx
      go_wp2_with fail
      clear z2 z7 h1 hu
      obtain ⟨vo, rfl⟩ := is_ v3
      go_roundw
      case rel => exact ⟨i + 1, vo, A, c, us, rfl, by go_num, by omega, HU, by omega, hsl, HAB, hbo, hA, hC⟩
      case measure => simp [intOf]; omega
     ·have HT : Hid (recP lot (r.pieces.take (i + 1)) r1 = recP lot (r.pieces.take i) r1) := by show _ = _; rw [HT0.out, if_neg (fun h => hu h.2)]
      have HU : Hid (usesR lot (r.pieces.take (i + 1)) = putU us x.use) := by show _ = _; rw [HU0.out, if_pos ⟨h1, hu⟩, HUS.out]
      have HLB : Hid ((usesR lot (r.pieces.take (i + 1))).length ≤ i + 1) := Nat.le_trans (usesR_len lot _) (by rw [List.length_take]; omega)
      go_wp2_with fail
      refine (put2_any A c us x.use W5 hsl (by omega)).mono ?_
      rintro e W6 ⟨A2, c2, rfl, hsl2, hb6, hor⟩
      have hAB2 : ∀ ad, A2 = some ad → bo < ad.block := fun ad ha => by
       rcases hor with h | h
       ·exact HAB.out ad (by rw [← h]; exact ha)
       ·have := h ad ha
        have := hbo.lt
        omega
      have HAB2 := hide hAB2
      replace hbo := hbo.below hb6 hbo.lt
      replace hA := hA.below hb6
      replace hC := hC.trans (.of_below hb6)
      rw [← HT.out] at hA
      clear hsl hpx z0 z2 z7 hb6 hor hAB2 HAB
      obtain ⟨us2, hus2⟩ := nm_ (putU us x.use)
      have HUS2 : Hid (us2 = usesR lot (r.pieces.take (i + 1))) := by show _ = _; rw [HU.out, hus2]
      rw [hus2] at hsl2 ⊢
      have hul2 : us2.length ≤ i + 1 := by rw [HUS2.out]; exact HLB.out
      clear hus2
      go_wp2_with fail
      go_roundw
      case rel => exact ⟨i + 1, vo, A2, c2, us2, rfl, by go_num, by omega, HUS2, hul2, hsl2, HAB2, hbo, hA, hC⟩
      case measure => simp [intOf]; omega
    ·obtain rfl : i = v.np := by omega
     have HUE : Hid (us = usesF (recU s lot)) := by show _ = _; rw [HUS.out, List.take_of_length_le (by rw [HH.out.np]; exact Nat.le_refl _), uses_is HR.out HI.out]
     have hAE : RAt W P2 vo (recP lot r.pieces (recI lot r.items r)) := by
      have := hA
      rw [List.take_of_length_le (by rw [HH.out.np]; exact Nat.le_refl _), ← HRE.out] at this
      exact this
     have HAE := hide hAE
     have HSL := hide hsl
     have hr := HR3.out.chg1 hC (by have := HWB.out; omega)
     have hBB := HB3.out.trans (hC.below1 HB3.out.size (by have := HWB.out; omega))
     obtain ⟨c0, c1, c2, c3, c4, c5, c6, c7, c8⟩ := hbo.all9
     clear hA hAs hAE hsl hbo hC HUS
     obtain ⟨v2, rfl⟩ := is_ vo
     go_wp2_with (refine wpList_store_blk rfl 38 _ _ rfl ↑v2 hr rfl rfl (by kernel_rfl) rfl (by simp [Value.oneCell']) ?_; intro W9 hr9 hc9; obtain ⟨q0, q1, q2, q3, q4, q5, q6, q7, q8⟩ := hr9.all9)
     refine bodyPost_ret (v := .tuple #[.agg ↑v2, .slice A us.length c, .int .i64 0]) (by simp [results, Tryz.results33, go_sem, q0, q1, q2, q3, q4, q5, q6, q7, q8]) rfl ?_
     have hin1 : P2 (w.heap.size + 1) := by rw [← HPE.out]; exact .inl (.inr ⟨by omega, by have := HSZ.out; omega⟩)
     have hA9 := (HAE.out.chg (hc9.mono fun k _ hk => by subst hk; exact hin1)).less (P := P) fun k hk => by rw [← HPE.out]; exact .inl (.inl hk)
     have hsl9 := HSL.out.chgO hc9 (fun _ ad ha hk => by have := HAB.out ad ha; have hk2 : ad.block = w.heap.size + 1 := hk; have := HWB.out; omega)
     exact ⟨v2, _, A, c, by rw [HUE.out], by rw [← HUE.out]; exact hsl9, hA9, rel_recall HR.out HI.out lot, hBB.trans (hc9.below1 hBB.size (by omega))⟩
end Go.Proofs.YtehlbomkldnalaaGreat

/- The reference's cut: what holds between its steps. -/
namespace Go.Proofs.YtehlbomkldnalaaGreat
open Go Go.RowKit
theorem cA_rules (r : RS) (b : Sheet) (p : Int) : (r.cA b p).rules = r.rules := by unfold RS.cA; split <;> rfl
theorem cB_rules (r : RS) (n : Need) (b : Sheet) : (r.cB n b).rules = r.rules := by unfold RS.cB; split <;> rfl
/-- room in the reference's lists -/
structure RRoom (r : RS) (k : Nat) : Prop where
 it : r.items.length + k ≤ 1000000
 li : r.links.length + k ≤ 1000000
 mx : maxL r.links + k ≤ 1000000000000
 pc : r.pieces.length + k ≤ 1000000
section
variable {r : RS} {k : Nat}
theorem RRoom.less {j : Nat} (h : RRoom r k) (hj : j ≤ k) : RRoom r j := ⟨by have := h.it; omega, by have := h.li; omega, by have := h.mx; omega, by have := h.pc; omega⟩
theorem RRoom.without (h : RRoom r k) (id : Int) : RRoom (r.without id) k := ⟨by have := h.it; have := List.length_filter_le (fun y : Sheet => !decide (y.id = id)) r.items; show (r.items.filter _).length + k ≤ _; omega, h.li, h.mx, h.pc⟩
theorem RRoom.withI (h : RRoom r (k + 1)) (x : Sheet) : RRoom (r.withI x) k := ⟨by have := h.it; show (insG _ x r.items).length + k ≤ _; rw [insG_len]; omega, by have := h.li; show r.links.length + k ≤ _; omega, by have := h.mx; show maxL r.links + k ≤ _; omega, by have := h.pc; show r.pieces.length + k ≤ _; omega⟩
theorem RRoom.linked (h : RRoom r (k + 1)) (u : Int) : RRoom (r.linked r.next u) k := ⟨by have := h.it; show r.items.length + k ≤ _; omega, by have := h.li; show (r.links ++ [(r.next, u)]).length + k ≤ _; rw [List.length_append]; simp; omega, by
 have := h.mx
 show maxL (r.links ++ [(r.next, u)]) + k ≤ _
 rw [maxL_snoc]
 unfold imax RS.next
 dsimp only
 split <;> omega, by have := h.pc; show r.pieces.length + k ≤ _; omega⟩
theorem RRoom.offcut (h : RRoom r (k + 1)) (b : Sheet) (w l : Int) (fs : List Pt) : RRoom (r.offcut b w l fs) k := by
 have h1 := h.linked b.id
 refine ⟨?_, h1.li, h1.mx, h1.pc⟩
 have := h.it
 show (insG _ _ r.items).length + k ≤ _
 rw [insG_len]; omega
theorem RRoom.cA (h : RRoom r (k + 1)) (b : Sheet) (p : Int) : RRoom (r.cA b p) k := by
 unfold RS.cA
 split
 ·exact (h.without b.id).offcut b _ _ _
 ·exact (h.without b.id).less (by omega)
theorem RRoom.cB (h : RRoom r (k + 1)) (n : Need) (b : Sheet) : RRoom (r.cB n b) k := by
 unfold RS.cB
 split
 ·exact h.offcut b _ _ _
 ·exact h.less (by omega)
theorem Rel.rroom {s : SS} (h : Rel r s) (hi : Inv s) (hf : Room s k) : RRoom r (4 * k) :=
 ⟨by rw [h.ilen hi]; have := hf.it; omega, by rw [h.ll]; have := hf.pa; omega, by rw [h.la]; have := hf.la; push_cast; omega, by rw [h.plen hi]; have := hf.pc; omega⟩
end
/-- P, the four boxes from a on, and the box b -/
def PQ (P : Nat → Prop) (a b : Nat) (k : Nat) : Prop := P k ∨ (a ≤ k ∧ k < a + 4) ∨ k = b
/-- the world between two steps of a cut -/
structure CutW (w : World) (P2 : Nat → Prop) (n : Need) (b : Sheet) (g : SH) (bx : Nat) (r : RS) (v : RV) (W : World) : Prop where
 fs : Blk W w.heap.size 38 ↑v
 fn : Blk W (w.heap.size + 1) 45 ↑n
 fr : Blk W (w.heap.size + 2) 38 ↑zrA
 fq : Blk W (w.heap.size + 3) 96 ↑zpA
 fx : Blk W bx 93 ↑g
 fa : RAt W P2 v r
 fb : Below w.heap.size w W
 fl : w.heap.size + 3 < bx
 fi : P2 w.heap.size ∧ P2 bx
 fp : ∀ k, P2 k → k < W.heap.size
 fv : RsV W P2 b g
section
variable {w W W' : World} {P2 : Nat → Prop} {n : Need} {b b2 : Sheet} {g g2 : SH} {bx : Nat} {r r2 : RS} {v v2 : RV}
theorem CutW.call (h : CutW w P2 n b g bx r v W) (hb : Below W.heap.size W W') : CutW w P2 n b g bx r v W' :=
 ⟨h.fs.below hb h.fs.lt, h.fn.below hb h.fn.lt, h.fr.below hb h.fr.lt, h.fq.below hb h.fq.lt, h.fx.below hb h.fx.lt, h.fa.below hb, h.fb.trans (hb.mono h.fb.size), h.fl, h.fi, fun k hk => Nat.lt_of_lt_of_le (h.fp k hk) hb.size, h.fv.below hb⟩
theorem CutW.store (h : CutW w P2 n b g bx r v W) (hs : Blk W' w.heap.size 38 ↑v2) (hc : Chg (fun k => k = w.heap.size) W W') (ha : RAt W P2 v2 r2) : CutW w P2 n b g bx r2 v2 W' :=
 ⟨hs, h.fn.chg1 hc (by omega), h.fr.chg1 hc (by omega), h.fq.chg1 hc (by omega), h.fx.chg1 hc (by have := h.fl; omega), ha.chg (hc.mono fun k _ hk => by subst hk; exact h.fi.1), h.fb.trans (hc.below1 h.fb.size (Nat.le_refl _)), h.fl, h.fi, fun k hk => Nat.lt_of_lt_of_le (h.fp k hk) hc.size, h.fv.chg (hc.mono fun k _ hk => by subst hk; exact h.fi.1)⟩
theorem CutW.storeX (h : CutW w P2 n b g bx r v W) (hs : Blk W' bx 93 ↑g2) (hc : Chg (fun k => k = bx) W W') (hv : RsV W P2 b2 g2) : CutW w P2 n b2 g2 bx r v W' :=
 ⟨h.fs.chg1 hc (by have := h.fl; omega), h.fn.chg1 hc (by have := h.fl; omega), h.fr.chg1 hc (by have := h.fl; omega), h.fq.chg1 hc (by have := h.fl; omega), hs, h.fa.chg (hc.mono fun k _ hk => by subst hk; exact h.fi.2), h.fb.trans (hc.below1 h.fb.size (by have := h.fl; omega)), h.fl, h.fi, fun k hk => Nat.lt_of_lt_of_le (h.fp k hk) hc.size, hv.chg (hc.mono fun k _ hk => by subst hk; exact h.fi.2)⟩
theorem CutW.rules (h : CutW w P2 n b g bx r v W) : r.rules = ⟨v.mw, v.ml, v.l0, v.l1, v.l2⟩ := h.fa.ru
end
def OneIs (r : RS) (s : SS) (n : Need) (lot day : Int) (o : Option Sheet) : Prop := match o with
 | none => oneR s n lot day = none
 | some b => ∃ p s', clear b.length b.faults n.length = some p ∧ look s.items b.id = some b ∧ b.lot = lot ∧ n.width ≤ b.width ∧ oneR s n lot day = some (s', ((r.cA b p).cB n b).pc1 n b) ∧ Rel (r.cut1 n b p) s'
theorem oneIs {r : RS} {s : SS} {n : Need} {lot day : Int} (h : Rel r s) (hi : Inv s) (hn : NeedOk n) : OneIs r s n lot day (pickL r.rules n lot day r.items) := h.one hi hn
theorem RsV.parts {w : World} {P : Nat → Prop} {x : Sheet} {h : SH} (k : RsV w P x h) : h.n = x.faults.length ∧ Slc Pt.enc 2 w w.heap.size h.A x.faults ∧ Offs P h.A x.faults ∧ h.id = x.id ∧ h.root = x.root ∧ h.gr = x.grade ∧ h.co = x.colour ∧ h.lo = x.lot ∧ h.ma = x.made ∧ h.wi = x.width ∧ h.le = x.length := by
 obtain ⟨A, c, rfl, h1, h2⟩ := k
 exact ⟨rfl, h1, h2, rfl, rfl, rfl, rfl, rfl, rfl, rfl, rfl⟩
/-- a list of faults that was made -/
def FIs (P2 : Nat → Prop) (fs : List Pt) (u : Value) (w : World) : Prop := ∃ A c, u = .slice A fs.length c ∧ Slc Pt.enc 2 w w.heap.size A fs ∧ Offs P2 A fs
theorem FIs.below {P2 : Nat → Prop} {fs : List Pt} {u : Value} {w w' : World} (h : FIs P2 fs u w) (hb : Below w.heap.size w w') : FIs P2 fs u w' := by
 obtain ⟨A, c, h1, h2, h3⟩ := h
 exact ⟨A, c, h1, Slc.on h2 hb, h3⟩
theorem ClonePost.fis {P2 : Nat → Prop} {fs : List Pt} {w w' : World} {e : Ending} (h : ClonePost 57 Pt.enc 2 fs w e w') (hP : ∀ k, P2 k → k < w.heap.size) : ∃ u, e = .returned u ∧ FIs P2 fs u w' ∧ Below w.heap.size w w' := by
 obtain ⟨A, c, h1, h2, h3, h4⟩ := h
 refine ⟨_, h1, ⟨A, c, rfl, h3, fun hne ad ha hp => ?_⟩, h2⟩
 have h5 := (h4 hne).from_ (Nat.le_refl _) ad ha
 have h6 := hP _ hp
 omega
theorem behind_n (A : Option Addr) (c k : Nat) (fs : List Pt) (p : Int) (w : World) (hk : k = fs.length) (hS : Slc Pt.enc 2 w w.heap.size A fs) (hfl : fs.length ≤ 100000) (hfb : ∀ q ∈ fs, -1000000 ≤ q.a ∧ q.a ≤ 1000000 ∧ -1000000 ≤ q.b ∧ q.b ≤ 1000000) (hp : 0 ≤ p ∧ p ≤ 1000000) :
  Calls Tryz.prog 94 #[.slice A k c, p] w (ClonePost 57 Pt.enc 2 (behindR fs p) w) := by
 subst hk; exact behind_any A c fs p w hS hfl hfb hp
def CutRPost (P : Nat → Prop) (r : RS) (s : SS) (n : Need) (lot day : Int) (w : World) (e : Ending) (w' : World) : Prop :=
 match oneR s n lot day with
 | none => ∃ v2 : RV, e = .returned (.tuple #[.agg ↑v2, .agg ↑zpA, .bool false]) ∧ RAt w' P v2 r ∧ Below w.heap.size w w'
 | some q => ∃ (v2 : RV) (r2 : RS) (x : Piece), e = .returned (.tuple #[.agg ↑v2, .agg ↑x, .bool true]) ∧ x = q.2 ∧ RAt w' P v2 r2 ∧ Rel r2 q.1 ∧ Below w.heap.size w w'
end Go.Proofs.YtehlbomkldnalaaGreat

/- The reference's cut: the walk. -/
namespace Go.Proofs.YtehlbomkldnalaaGreat
open Go Go.RowKit
set_option maxRecDepth 100000 in
set_option maxHeartbeats 8000000 in
theorem rcut_any (v : RV) (r : RS) (s : SS) (P : Nat → Prop) (n : Need) (lot day : Int) (w : World) (h : RAt w P v r) (hR : Rel r s) (hI : Inv s) (hF : Room s 1) (hn : NeedOk n) (hd : 0 ≤ day ∧ day ≤ 100000) (hP : ∀ k, P k → k < w.heap.size) :
  Calls Tryz.prog 78 #[.agg ↑v, lot, .agg ↑n, day] w (CutRPost P r s n lot day w) := by
 have HR := hide hR
 have HI := hide hI
 have HRM : Hid (RRoom r 4) := hR.rroom hI hF
 have HN := hide hn
 have HD := hide hd
 have HPP := hide hP
 have HH0 := hide h
 obtain ⟨hbx, hnx, hr0, hq0, hal, hsz⟩ := box4 w 38 45 38 96 ↑v ↑n ↑zrA ↑zpA
 have HH := hide (h.box hal)
 have HW := hide hal
 clear hR hI hF hn hd hP h
 go_enter Tryz.func78, Tryz.ntmps78
 go_upto_region 1 with fail
 generalize (((w.alloc (.cells ↑v 38)).alloc (.cells ↑n 45)).alloc (.cells ↑zrA 38)).alloc (.cells ↑zpA 96) = W at *
 have HSZ := hide hsz
 clear hsz hal
 obtain ⟨o, ho⟩ := nm_ (pickL r.rules n lot day r.items)
 have HO := hide ho
 have HONE : Hid (OneIs r s n lot day o) := by
  have := oneIs HR.out HI.out HN.out (lot := lot) (day := day)
  rw [ho] at this
  exact this
 obtain ⟨c0, c1, c2, c3, c4, c5, c6, c7, c8⟩ := hbx.all9
 obtain ⟨y0, y1, y2, y3, y4⟩ := hnx.all5
 clear ho
 go_wp2_with fail
 refine (chosen_any v r _ n lot day W HH.out (by have := HRM.out.it; omega) HD.out (fun x hx => ((HI.out.it _ _ ((HR.out.it.m x).1 hx)).2).itb)).mono ?_
 rintro e W1 ⟨g, at_, rfl, hg, hb1⟩
 rw [HO.out] at hg ⊢
 have hs1 := hbx.below hb1 hbx.lt
 have hn1 := hnx.below hb1 hnx.lt
 have hr1 := hr0.below hb1 hr0.lt
 have hq1 := hq0.below hb1 hq0.lt
 have hB1 := HW.out.trans (hb1.mono HW.out.size)
 have HA1 := hide (HH.out.below hb1)
 have hsz1 : w.heap.size + 4 ≤ W1.heap.size := by have := hb1.size; have := HSZ.out; omega
 have HG := hide hg
 clear c0 c1 c2 c3 c4 c5 c6 c7 c8 y0 y1 y2 y3 y4 hbx hnx hr0 hq0 hb1 hg
 have hbox := Blk.new W1 93 ↑g
 have hal := (Below.refl W1.heap.size W1).alloc (Nat.le_refl _) (.cells ↑g 93)
 go_upto_region 2 with fail
 have HA2 := hide (HA1.out.below hal)
 have hs2 := hs1.below hal hs1.lt
 have hn2 := hn1.below hal hn1.lt
 have hr2 := hr1.below hal hr1.lt
 have hq2 := hq1.below hal hq1.lt
 have hB2 := hB1.trans (hal.mono hB1.size)
 have hsz2 : (W1.alloc (.cells ↑g 93)).heap.size = W1.heap.size + 1 := by simp
 obtain ⟨bx, hbx⟩ := nm_ W1.heap.size
 have HBE : Hid (bx = W1.heap.size) := hbx.symm
 rw [hbx] at hbox hsz2 hsz1 ⊢
 generalize W1.alloc (.cells ↑g 93) = W2 at *
 have HAL := hide hal
 clear hbx hs1 hn1 hr1 hq1 hB1 hal
 cases o with
 | none =>
  have c0 := hs2.cell_ 0 (v := v.mw) rfl
  have hs := hs2
  clear c0
  obtain ⟨c0, c1, c2, c3, c4, c5, c6, c7, c8⟩ := hs.all9
  clear hs hs2
  go_wp2_with (first
   | (refine wpList_zero rfl rfl _ zero_piece ?_)
   | (refine wpList_store_blk rfl 38 _ _ rfl ↑v hr2 rfl rfl (by kernel_rfl) rfl (by simp [Value.oneCell']) ?_; intro W9 hr9 hc9; have hq9 := hq2.chg1 hc9 (by omega))
   | (refine wpList_store_blk rfl 96 _ _ rfl ↑zpA hq9 rfl rfl (by kernel_rfl) rfl (by simp [Value.oneCell']) ?_; intro W10 hq10 hc10; have hr10 := hr9.chg1 hc10 (by omega)))
  obtain ⟨q0, q1, q2, q3, q4, q5, q6, q7, q8⟩ := hr10.all9
  obtain ⟨p0, p1, p2, p3, p4, p5, p6, p7⟩ := hq10.all8
  have hB10 : Below w.heap.size w W10 := (hB2.trans (hc9.below1 (by omega) (by omega))).trans (hc10.below1 (by have := hc9.size; omega) (by omega))
  refine bodyPost_ret (v := .tuple #[.agg ↑v, .agg ↑zpA, .bool false]) (by simp [results, Tryz.results78, go_sem, q0, q1, q2, q3, q4, q5, q6, q7, q8, p0, p1, p2, p3, p4, p5, p6, p7]) rfl ?_
  unfold CutRPost
  rw [show oneR s n lot day = none from HONE.out]
  exact ⟨v, rfl, HH0.out.below hB10, hB10⟩
 | some b =>
  obtain ⟨p, s', hcl, hlk, hlot, hwid, hone, hrel⟩ := HONE.out
  have hgb := HG.out b rfl
  have hat : at_ = p := by rw [hgb.2, hcl]; rfl
  subst hat
  have ho := (HI.out.it _ _ hlk).2
  have hcb := clear_bd hcl
  have hpb : 0 ≤ at_ ∧ at_ ≤ 6000 ∧ at_ + n.length ≤ b.length := by have := ho.l; have := HN.out.l; omega
  have HLK := hide hlk
  have HCL := hide hcl
  have HONE2 := hide hone
  have HREL := hide hrel
  have HOK := hide ho
  have HPQ : Hid (∀ k, PQ P w.heap.size bx k → PB P w.heap.size W.heap.size k ∨ W1.heap.size ≤ k) := fun k hk => by
   rcases hk with h1 | h1 | h1
   ·exact .inl (.inl h1)
   ·exact .inl (.inr ⟨h1.1, by have := HSZ.out; omega⟩)
   ·exact .inr (by rw [h1, HBE.out]; exact Nat.le_refl _)
  have HP2 : Hid (∀ k, PQ P w.heap.size bx k → k < W2.heap.size) := fun k hk => by
   rcases hk with h1 | h1 | h1
   ·have := HPP.out k h1; have := hB2.size; omega
   ·omega
   ·omega
  have hK : CutW w (PQ P w.heap.size bx) n b g bx r v W2 :=
   ⟨hs2, hn2, hr2, hq2, hbox, (HA1.out.more HPQ.out).below HAL.out, hB2, by omega, ⟨.inr (.inl ⟨Nat.le_refl _, by omega⟩), .inr (.inr rfl)⟩, HP2.out, (hgb.1.more HPQ.out).below HAL.out⟩
  obtain ⟨P2, hP2⟩ := nm_ (PQ P w.heap.size bx)
  have HPE := hide hP2
  rw [hP2] at hK
  have HGW : Hid (g.wi = b.width) := by obtain ⟨_, _, e, _⟩ := hgb.1; rw [e]; rfl
  have HGL : Hid (g.le = b.length) := by obtain ⟨_, _, e, _⟩ := hgb.1; rw [e]; rfl
  have HGI : Hid (g.id = b.id) := hgb.1.id_
  obtain ⟨en, hen⟩ := nm_ (at_ + n.length)
  have HEN := hide hen
  have e1 : IntKind.i64.wrap (at_ + n.length) = en := by rw [← hen]; exact IntWalk.i64_in _ (by have := ho.l; have := HN.out.l; omega)
  have hPP := hK.fp
  clear hlk hcl hone hrel ho hcb hgb hP2 hen hs2 hn2 hr2 hq2 hbox hB2 hsz2
  have hs := hK.fs
  obtain ⟨c0, c1, c2, c3, c4, c5, c6, c7, c8⟩ := hs.all9
  have hn := hK.fn
  obtain ⟨y0, y1, y2, y3, y4⟩ := hn.all5
  have hx := hK.fx
  obtain ⟨e0, e1, e2, e3, e4, e5, e6, e7, e8⟩ := hx.all9
  clear hs hn hx
  go_wp2_with fail
  refine (without_any v r P2 g.id W2 hK.fa hPP (by have := HRM.out.it; omega)).mono ?_
  rintro e W3 ⟨v2, rfl, hA3, hb3⟩
  clear c0 c1 c2 c3 c4 c5 c6 c7 c8 y0 y1 y2 y3 y4 e0 e1 e2 e3 e4 e5 e6 e7 e8
  have hK3 := hK.call hb3
  clear hK hPP hb3 e1
  go_upto_region 6 with (refine wpList_store_blk rfl 38 _ _ rfl ↑v2 hK3.fs rfl rfl (by kernel_rfl) rfl (by simp [Value.oneCell']) ?_; intro W4 hs4 hc4)
  have hK := hK3.store hs4 hc4 hA3
  clear hK3 hs4 hc4 hA3
  obtain ⟨v, rfl⟩ := is_ v2
  obtain ⟨W, rfl⟩ := is_ W4
  try dsimp only [Act.put]
  have HML : Hid (r.rules.minLength = v.ml ∧ r.rules.minWidth = v.mw) := by
   have := hK.rules
   have h1 : r.rules = _ := this
   rw [h1]; exact ⟨rfl, rfl⟩
  have HRA : Hid (RRoom (r.without g.id) 4) := HRM.out.without _
  have hs := hK.fs
  obtain ⟨c0, c1, c2, c3, c4, c5, c6, c7, c8⟩ := hs.all9
  have hn := hK.fn
  obtain ⟨y0, y1, y2, y3, y4⟩ := hn.all5
  have hx := hK.fx
  obtain ⟨e0, e1, e2, e3, e4, e5, e6, e7, e8⟩ := hx.all9
  clear hs hn hx
  go_upto_if 41 with fail
  go_cut [] (fun wx => ∃ vc : RV, CutW w P2 n b g bx (r.cA b at_) vc wx)
  case first =>
   by_cases hml : v.ml ≤ at_
   ·go_upto_region 7 with fail
    clear c0 c1 c2 c3 c4 c5 c6 c7 c8 y0 y1 y2 y3 y4 e0 e1 e2 e3 e4 e5 e6 e7 e8
    have HK := hide hK
    have hPP := hK.fp
    have HGP := hide hK.fv.parts
    clear hK
    refine wp_region_call2 (argsi := #[.slice g.A g.n g.c, at_]) 8 9 10 [0, 1, 2, 3, 4, 5, 6, 7] (FIs P2 (frontR b.faults at_)) (fun u => #[.agg ↑v, .agg ↑g, g.wi, at_, u]) (RIs P2 (r.cA b at_)) (by kernel_rfl) (by kernel_rfl) (by kernel_rfl) (by kernel_rfl) (by decide) (fun u w w' hb ⟨v2, h1, h2⟩ => ⟨v2, h1, h2.below hb⟩) (fun u w w' hb h => h.below hb) rfl rfl rfl rfl rfl rfl (fun _ _ => rfl) (fun _ _ => rfl) ?_
    apply Exists.intro
    refine ⟨fun W1 hc => ?_, ?_⟩
    ·have hx1 := HK.out.fs.below hc HK.out.fs.lt
     have hx2 := HK.out.fx.below hc HK.out.fx.lt
     obtain ⟨y_c0, y_c1, y_c2, y_c3, y_c4, y_c5, y_c6, y_c7, y_c8⟩ := hx1.sin9
     obtain ⟨y_e0, y_e1, y_e2, y_e3, y_e4, y_e5, y_e6, y_e7, y_e8⟩ := hx2.sin9
     clear hx1 hx2
     dsimp only [pick, List.filterMap, List.getElem?_cons_succ, List.getElem?_cons_zero]
     repeat (go_big_quiet_step (fail))
     exact wpQuiet_nil rfl
    refine ⟨by simp [Act.eval], rfl, fun w1 hb1 => ?_, fun ui => ?_⟩
    ·rw [HGP.out.1]
     refine (front_any g.A g.c b.faults at_ w1 (Slc.on HGP.out.2.1 hb1) (by have := HOK.out.n; omega)).mono ?_
     intro e w3 hcl
     exact hcl.fis fun k hk => Nat.lt_of_lt_of_le (HK.out.fp k hk) hb1.size
    refine ⟨by simp [Act.eval, Act.put], rfl, fun w1 hb1 ⟨Af, cf, hu, hfs, hfo⟩ => ?_, fun u w8 hb8 ⟨v2, hu, hx⟩ => ?_⟩
    ·rw [hu]
     refine (offcut_any v (r.without g.id) P2 b g g.wi at_ Af cf (frontR b.faults at_) w1 (HK.out.fa.below hb1) (HK.out.fv.below hb1) hfs hfo (fun k hk => Nat.lt_of_lt_of_le (HK.out.fp k hk) hb1.size) (by have := HRA.out.it; omega) (by have := HRA.out.li; omega) (by have := HRA.out.mx; omega)).mono ?_
     rintro e w3 ⟨v3, rfl, h1, h2⟩
     have he : (r.without g.id).offcut b g.wi at_ (frontR b.faults at_) = r.cA b at_ := by
      unfold RS.cA
      rw [if_pos (by rw [HML.out.1]; exact hml), HGI.out, HGW.out]
     rw [he] at h1
     exact ⟨_, rfl, ⟨v3, rfl, h1⟩, h2⟩
    subst hu
    have hK8 := HK.out.call hb8
    clear hb8 HK
    dsimp only [Act.put]
    simp only [List.setIfInBounds_toArray, List.set_cons_succ, List.set_cons_zero, List.drop_succ_cons, List.drop_zero]
    go_wp2_with (refine wpList_store_blk rfl 38 _ _ rfl ↑v2 hK8.fs rfl rfl (by kernel_rfl) rfl (by simp [Value.oneCell']) ?_; intro W9 hs9 hc9)
    have hK9 := hK8.store hs9 hc9 hx
    clear hK8 hs9 hc9 hx
    go_meet
    exact ⟨v2, hK9⟩
   ·have he : r.without g.id = r.cA b at_ := by
     unfold RS.cA
     rw [if_neg (by rw [HML.out.1]; exact hml), HGI.out]
    rw [he] at hK
    clear he
    go_wp2_with fail
    go_meet
    exact ⟨v, hK⟩
  case rest =>
   clear c0 c1 c2 c3 c4 c5 c6 c7 c8 y0 y1 y2 y3 y4 e0 e1 e2 e3 e4 e5 e6 e7 e8
   clear hK
   obtain ⟨v, hK⟩ := hcut
   obtain ⟨W, rfl⟩ := is_ wc
   have HMA : Hid (r.rules.minLength = v.ml ∧ r.rules.minWidth = v.mw) := by
    have h1 := hK.rules
    rw [cA_rules] at h1
    show _ ∧ _
    rw [h1]; exact ⟨rfl, rfl⟩
   have HRM3 : Hid (RRoom (r.cA b at_) 3) := RRoom.cA HRM.out b at_
   obtain ⟨wv, hwv⟩ := nm_ (b.width - n.width)
   have HWV := hide hwv
   have e2 : IntKind.i64.wrap (g.wi - n.width) = wv := by rw [HGW.out, ← hwv]; exact IntWalk.i64_in _ (by have := HOK.out.w; have := HN.out.w; omega)
   clear hwv
   by_cases hcw : v.mw ≤ wv
   case' neg =>
    have HCB : Hid ((r.cA b at_).cB n b = r.cA b at_) := by
     show _ = _
     unfold RS.cB
     rw [if_neg (by rw [cA_rules, HMA.out.1, HMA.out.2, HWV.out]; exact fun h => hcw h.1)]
    rw [← HCB.out] at hK
    have hs := hK.fs
    obtain ⟨c0, c1, c2, c3, c4, c5, c6, c7, c8⟩ := hs.all9
    have hn := hK.fn
    obtain ⟨y0, y1, y2, y3, y4⟩ := hn.all5
    have hx := hK.fx
    obtain ⟨e0, e1, e2, e3, e4, e5, e6, e7, e8⟩ := hx.all9
    clear hs hn hx
    go_upto_region 10 with fail
    clear c0 c1 c2 c3 c4 c5 c6 c7 c8 y0 y1 y2 y3 y4 e0 e1 e2 e3 e4 e5 e6 e7 e8
    clear e2
   case' pos =>
    by_cases hcl : v.ml ≤ n.length
    case' neg =>
     have HCB : Hid ((r.cA b at_).cB n b = r.cA b at_) := by
      show _ = _
      unfold RS.cB
      rw [if_neg (by rw [cA_rules, HMA.out.1, HMA.out.2, HWV.out]; exact fun h => hcl h.2)]
     rw [← HCB.out] at hK
     have hs := hK.fs
     obtain ⟨c0, c1, c2, c3, c4, c5, c6, c7, c8⟩ := hs.all9
     have hn := hK.fn
     obtain ⟨y0, y1, y2, y3, y4⟩ := hn.all5
     have hx := hK.fx
     obtain ⟨e0, e1, e2, e3, e4, e5, e6, e7, e8⟩ := hx.all9
     clear hs hn hx
     go_upto_region 10 with fail
     clear c0 c1 c2 c3 c4 c5 c6 c7 c8 y0 y1 y2 y3 y4 e0 e1 e2 e3 e4 e5 e6 e7 e8
     clear e2
    case' pos =>
     have HCB : Hid ((r.cA b at_).cB n b = (r.cA b at_).offcut b wv n.length []) := by
      show _ = _
      unfold RS.cB
      rw [if_pos (by rw [cA_rules, HMA.out.1, HMA.out.2, HWV.out]; exact ⟨hcw, hcl⟩), HWV.out]
     have hs := hK.fs
     obtain ⟨c0, c1, c2, c3, c4, c5, c6, c7, c8⟩ := hs.all9
     have hn := hK.fn
     obtain ⟨y0, y1, y2, y3, y4⟩ := hn.all5
     have hx := hK.fx
     obtain ⟨e0, e1, e2, e3, e4, e5, e6, e7, e8⟩ := hx.all9
     clear hs hn hx
     go_wp2_with fail
     refine (offcut_any v (r.cA b at_) P2 b g wv n.length none 0 [] W hK.fa hK.fv Slc.nil_ (fun h => absurd rfl h) hK.fp (by have := HRM3.out.it; omega) (by have := HRM3.out.li; omega) (by have := HRM3.out.mx; omega)).mono ?_
     rintro e W3 ⟨v2, rfl, hA3, hb3⟩
     clear c0 c1 c2 c3 c4 c5 c6 c7 c8 y0 y1 y2 y3 y4 e0 e1 e2 e3 e4 e5 e6 e7 e8
     rw [← HCB.out] at hA3
     have hK3 := hK.call hb3
     clear hK hb3 e2
     go_upto_region 10 with (refine wpList_store_blk rfl 38 _ _ rfl ↑v2 hK3.fs rfl rfl (by kernel_rfl) rfl (by simp [Value.oneCell']) ?_; intro W4 hs4 hc4)
     have hK := hK3.store hs4 hc4 hA3
     clear hK3 hs4 hc4 hA3
     obtain ⟨v, rfl⟩ := is_ v2
     obtain ⟨W, rfl⟩ := is_ W4
     try dsimp only [Act.put]
   all_goals
    have HRM2 : Hid (RRoom ((r.cA b at_).cB n b) 2) := RRoom.cB (RRoom.cA HRM.out b at_) n b
    have HRR : Hid (((r.cA b at_).cB n b).rules = r.rules) := (cB_rules _ _ _).trans (cA_rules _ _ _)
    obtain ⟨rb, hrb⟩ := nm_ ((r.cA b at_).cB n b)
    have HRB := hide hrb
    rw [hrb] at hK HRM2 HRR
    clear hrb
    obtain ⟨k, hk⟩ := nm_ rb.next
    have HK := hide hk
    have HKA := hide hK.fa
    have HBL := hide hK.fx.lt
    have HGP := hide hK.fv.parts
    have hs := hK.fs
    obtain ⟨c0, c1, c2, c3, c4, c5, c6, c7, c8⟩ := hs.all9
    have hn := hK.fn
    obtain ⟨y0, y1, y2, y3, y4⟩ := hn.all5
    have hx := hK.fx
    obtain ⟨e0, e1, e2, e3, e4, e5, e6, e7, e8⟩ := hx.all9
    clear hs hn hx
    go_wp2_with fail
    have z_c0 := Since.hid c0
    have z_c1 := Since.hid c1
    have z_c2 := Since.hid c2
    have z_c3 := Since.hid c3
    have z_c4 := Since.hid c4
    have z_c5 := Since.hid c5
    have z_c6 := Since.hid c6
    have z_c7 := Since.hid c7
    have z_c8 := Since.hid c8
    have z_e1 := Since.hid e1
    have z_e2 := Since.hid e2
    have z_e3 := Since.hid e3
    have z_e4 := Since.hid e4
    have z_y2 := Since.hid y2
    have z_y3 := Since.hid y3
    have hok : FldOk W ([⟨15, .ptr, (.cells ↑zpA 96), 16, (.cells #[k, g.root, g.lo, g.gr, g.co, n.width, n.length, .int .i64 0] 96)⟩]) [] := FldOk.nil_
    refine wp_region_both 17 [0, 1, 2, 3, 4, 5, 6, 7, 8, 9, 10, 11, 12, 13, 14] [15, 16] [⟨15, .ptr, (.cells ↑zpA 96), 16, (.cells #[k, g.root, g.lo, g.gr, g.co, n.width, n.length, .int .i64 0] 96)⟩] [] (fun f hf => by cases hf) (by kernel_rfl) (by kernel_rfl) (by kernel_rfl) (by kernel_rfl) (by kernel_rfl) (by simp) ?_
    apply Exists.intro
    refine ⟨fun W1 hc0 => ?_, ?_⟩
    ·have hb := hc0.nil_
     have y_c0 := Since.cell (z_c0.out W1 hb)
     have y_c1 := Since.cell (z_c1.out W1 hb)
     have y_c2 := Since.cell (z_c2.out W1 hb)
     have y_c3 := Since.cell (z_c3.out W1 hb)
     have y_c4 := Since.cell (z_c4.out W1 hb)
     have y_c5 := Since.cell (z_c5.out W1 hb)
     have y_c6 := Since.cell (z_c6.out W1 hb)
     have y_c7 := Since.cell (z_c7.out W1 hb)
     have y_c8 := Since.cell (z_c8.out W1 hb)
     have y_e1 := Since.cell (z_e1.out W1 hb)
     have y_e2 := Since.cell (z_e2.out W1 hb)
     have y_e3 := Since.cell (z_e3.out W1 hb)
     have y_e4 := Since.cell (z_e4.out W1 hb)
     have y_y2 := Since.cell (z_y2.out W1 hb)
     have y_y3 := Since.cell (z_y3.out W1 hb)
     replace hK := CutW.call hK hb
     dsimp only [pick, List.filterMap, List.getElem?_cons_succ, List.getElem?_cons_zero]
     repeat (go_big_quiet_step ((go_at_call 93; exact Since.calls (next_any v rb P2 _ (HKA.out.below (hb.trans (Below.mono (Since.h _) hb.size))) (by have := HRM2.out.li; omega) (by have := HRM2.out.mx; omega) k hk))))
     exact wpQuiet_nil rfl
    ·refine ownWalk_alloc ⟨15, .ptr, (.cells ↑zpA 96), 16, (.cells #[k, g.root, g.lo, g.gr, g.co, n.width, n.length, .int .i64 0] 96)⟩ hok (by kernel_rfl) rfl rfl rfl rfl (fun _ => rfl) (by simp) (by simp) (fun h => absurd h (by simp)) ?_
     intro hpxb
     simp only [Shape.val, List.setIfInBounds_toArray, List.set_cons_succ, List.set_cons_zero]
     refine ownWalk_fill (cs := ↑zpA) (cs' := #[k, g.root, g.lo, g.gr, g.co, n.width, n.length, .int .i64 0]) ⟨15, .ptr, (.cells ↑zpA 96), 16, (.cells #[k, g.root, g.lo, g.gr, g.co, n.width, n.length, .int .i64 0] 96)⟩ hok (by kernel_rfl) rfl rfl rfl rfl rfl rfl rfl rfl (by kernel_rfl) rfl (by simp [Value.oneCell']) rfl rfl (by simp) (by simp) (by simp) rfl ?_ (by simp)
     refine ownWalk_nil ?_
     intro w' hc0 hD
     have hb := hc0.nil_
     obtain ⟨hpxge, hpx⟩ := hD.box.get (x := ⟨15, .ptr, (.cells ↑zpA 96), 16, (.cells #[k, g.root, g.lo, g.gr, g.co, n.width, n.length, .int .i64 0] 96)⟩) (o := (.cells #[k, g.root, g.lo, g.gr, g.co, n.width, n.length, .int .i64 0] 96)) (by simp) rfl rfl
     replace hpx : Blk _ _ _ _ := hpx
     clear hD
     try simp only [List.drop_succ_cons, List.drop_zero]
     replace c0 : w'.cell? _ = _ := z_c0.out w' hb
     replace c1 : w'.cell? _ = _ := z_c1.out w' hb
     replace c2 : w'.cell? _ = _ := z_c2.out w' hb
     replace c3 : w'.cell? _ = _ := z_c3.out w' hb
     replace c4 : w'.cell? _ = _ := z_c4.out w' hb
     replace c5 : w'.cell? _ = _ := z_c5.out w' hb
     replace c6 : w'.cell? _ = _ := z_c6.out w' hb
     replace c7 : w'.cell? _ = _ := z_c7.out w' hb
     replace c8 : w'.cell? _ = _ := z_c8.out w' hb
     replace e1 : w'.cell? _ = _ := z_e1.out w' hb
     replace e2 : w'.cell? _ = _ := z_e2.out w' hb
     replace e3 : w'.cell? _ = _ := z_e3.out w' hb
     replace e4 : w'.cell? _ = _ := z_e4.out w' hb
     replace y2 : w'.cell? _ = _ := z_y2.out w' hb
     replace y3 : w'.cell? _ = _ := z_y3.out w' hb
     clear z_c0 z_c1 z_c2 z_c3 z_c4 z_c5 z_c6 z_c7 z_c8 z_e1 z_e2 z_e3 z_e4 z_y2 z_y3
     replace hK := CutW.call hK hb
     clear hb hok hc0
     obtain ⟨W, rfl⟩ := is_ w'
     obtain ⟨z0, z1, z2, z3, z4, z5, z6, z7⟩ := hpx.all8
     clear hk c0 c1 c2 c3 c4 c5 c6 c7 c8 e1 e2 e3 e4 y2 y3 HKA e0 e5 e6 e7 e8 y0 y1 y4 z0 z1 z2 z3 z4 z5 z6 z7
     obtain ⟨x, hx⟩ : ∃ x : Piece, x = ⟨k, g.root, g.lo, g.gr, g.co, n.width, n.length, 0⟩ := ⟨_, rfl⟩
     have HX := hide hx
     have hpb2 : bx < hpxb := by have := HBL.out; omega
     have hpx2 : Blk W hpxb 96 ↑x := by rw [hx]; exact hpx
     have hxb := hK.fl
     have z0 := hpx2.cell_ 0 (v := x.id) rfl
     have hs := hK.fs
     obtain ⟨c0, c1, c2, c3, c4, c5, c6, c7, c8⟩ := hs.all9
     have hn := hK.fn
     obtain ⟨y0, y1, y2, y3, y4⟩ := hn.all5
     have hx := hK.fx
     obtain ⟨e0, e1, e2, e3, e4, e5, e6, e7, e8⟩ := hx.all9
     clear hs hn hx
     clear hx hpx
     go_wp2_with fail
     refine (linked_any v rb P2 x.id g.id W hK.fa hK.fp (by have := HRM2.out.li; omega)).mono ?_
     rintro e W3 ⟨v2, rfl, hA3, hb3⟩
     clear c0 c1 c2 c3 c4 c5 c6 c7 c8 y0 y1 y2 y3 y4 e0 e1 e2 e3 e4 e5 e6 e7 e8
     have hK3 := hK.call hb3
     have hpx3 := hpx2.below hb3 hpx2.lt
     clear hK hb3 z0 hpx2
     go_upto_region 12 with (refine wpList_store_blk rfl 38 _ _ rfl ↑v2 hK3.fs rfl rfl (by kernel_rfl) rfl (by simp [Value.oneCell']) ?_; intro W4 hs4 hc4)
     have hK := hK3.store hs4 hc4 hA3
     have hpx := hpx3.chg1 hc4 (by omega)
     clear hK3 hs4 hc4 hA3 hpx3
     obtain ⟨v, rfl⟩ := is_ v2
     obtain ⟨W, rfl⟩ := is_ W4
     try dsimp only [Act.put]
     obtain ⟨rc, hrc⟩ := nm_ (rb.linked x.id g.id)
     have HRC := hide hrc
     rw [hrc] at hK
     have HPC : Hid (rc.pieces.length ≤ 1000000) := by show _ ≤ _; rw [← hrc]; have := HRM2.out.pc; show rb.pieces.length ≤ _; omega
     clear hrc
     have HKC := hide hK
     have HPX := hide hpx
     have HNP := hide hK.fa.np
     have hnp : v.np ≤ 1000000 := by rw [hK.fa.np]; exact HPC.out
     have HSL := hide hK.fa.pieces
     have hg9 : ∀ z9 ∈ ([⟨0, 3, fun u w => Own w W.heap.size 96 8 Piece.enc u []⟩, ⟨3, 3, fun u w => Own w W.heap.size 96 8 Piece.enc u rc.pieces⟩, ⟨5, 5, OneOk W.heap.size 96 ↑x⟩] : List Ow), z9.Good := fun z9 hz9 => by
      simp only [List.mem_cons, List.not_mem_nil, or_false] at hz9
      rcases hz9 with rfl | rfl | rfl
      ·exact own_ow _ _ _ _ _ _ _
      ·exact own_ow _ _ _ _ _ _ _
      ·exact one_ow _ _ _ _ _
     clear hK hpx
     refine wp_region_owns 6 [1, 2, 4] [0, 3, 5] [⟨0, 3, fun u w => Own w W.heap.size 96 8 Piece.enc u []⟩, ⟨3, 3, fun u w => Own w W.heap.size 96 8 Piece.enc u rc.pieces⟩, ⟨5, 5, OneOk W.heap.size 96 ↑x⟩]
      hg9 (by kernel_rfl) (by kernel_rfl) (by kernel_rfl) (by kernel_rfl) (by kernel_rfl) ?_
     apply Exists.intro
     refine ⟨fun W1 hb => ?_, ?_⟩
     ·have hx1 := HKC.out.fs.below hb HKC.out.fs.lt
      have hx2 := HPX.out.below hb HPX.out.lt
      have y_c7 := Since.cell (hx1.cell_ 7 (v := .slice v.Ap v.np v.cp) rfl)
      obtain ⟨y_p0, y_p1, y_p2, y_p3, y_p4, y_p5, y_p6, y_p7⟩ := hx2.sin8
      clear hx1 hx2
      dsimp only [pick, List.filterMap, List.getElem?_cons_succ, List.getElem?_cons_zero]
      repeat (go_big_quiet_step ((fail)))
      exact wpQuiet_nil rfl
     ·refine ownWalk_own (⟨0, 3, fun u w => Own w W.heap.size 96 8 Piece.enc u []⟩ : Ow) hg9 rfl rfl rfl rfl (by simp) (by simp) (fun w1 γ' hb hD hn hp => OwRun.alloc (v := fun g => .slice (some ⟨g, 0, none⟩) 0 0) (o := .cells #[] 96) hb (exec_build rfl (by simp) (run_build0 et_piece w1)) (Own.empty_ (Blk.new w1 _ _) hb.size) (fun g b h => by injection h with h; exact h.symm)) ?_
      intro u0
      simp only [List.setIfInBounds_toArray, List.set_cons_succ, List.set_cons_zero]
      refine ownWalk_own (⟨3, 3, fun u w => Own w W.heap.size 96 8 Piece.enc u rc.pieces⟩ : Ow) hg9 rfl rfl rfl rfl (by simp) (by simp) (fun w1 γ' hb hD hn hp => OwRun.app (xs := []) (ys := rc.pieces) _ (⟨0, 3, fun u w => Own w W.heap.size 96 8 Piece.enc u []⟩ : Ow) (by simp) rfl (by simp) (fun u w h => h) (fun u w h => h) et_piece pce_len pce_one rfl rfl rfl (HSL.out.below hb) HNP.out.symm (by simp; omega) hb hD ((hp 0 (by simp [preO])).trans rfl) hn) ?_
      intro u3
      simp only [List.setIfInBounds_toArray, List.set_cons_succ, List.set_cons_zero]
      refine ownWalk_own (⟨5, 5, OneOk W.heap.size 96 ↑x⟩ : Ow) hg9 rfl rfl rfl rfl (by simp) (by simp) (fun w1 γ' hb hD hn hp => OwRun.alloc (v := fun g => .slice (some ⟨g, 0, none⟩) 1 1) (o := .cells ↑x 96) hb (exec_build rfl (by simp [Act.eval] <;> rfl) (run_build1 et_piece (.agg ↑x) rfl (by omega) w1)) ⟨_, rfl, Blk.new w1 _ _, hb.size⟩ (fun g b h => by injection h with h; exact h.symm)) ?_
      intro u5
      simp only [List.setIfInBounds_toArray, List.set_cons_succ, List.set_cons_zero]
      refine ownWalk_nil ?_
      intro W1 hb hD
      have o3 : Own W1 W.heap.size 96 8 Piece.enc u3 rc.pieces := hD.ok ⟨3, 3, fun u w => Own w W.heap.size 96 8 Piece.enc u rc.pieces⟩ (by simp) u3 rfl (.inl rfl)
      obtain ⟨g6, rfl, b6, _⟩ := hD.ok ⟨5, 5, OneOk W.heap.size 96 ↑x⟩ (by simp) u5 rfl (.inl rfl)
      clear hD hg9
      have hpcl := HPC.out
      simp only [List.drop_succ_cons, List.drop_zero]
      go_upto_region 13 with (first
       | (at_builtin; refine wpList_app_own _ _ rfl rfl et_piece o3 rfl rfl (Blk.slc1 (y := x) b6 rfl) rfl pce_len pce_one (by omega) hb.size ?_; intro v' W2 o7 hb7 hgr7; obtain ⟨A7, c7, rfl, S7⟩ := o7.form pce_len)
       | (refine wpList_store_at rfl 35 _ _ rfl (.slice A7 _ c7) (HKC.out.call (hb.trans hb7)).fs rfl rfl (by kernel_rfl) rfl (by simp) rfl ?_; intro W5 hs5 hc5))
      have hb2 := hb.trans hb7
      have hK2 := HKC.out.call hb2
      obtain ⟨v3, hv3⟩ : ∃ y : RV, y = { v with Ap := A7, np := (rc.pieces ++ [x]).length, cp := c7 } := ⟨_, rfl⟩
      have hA : RAt W2 P2 v3 { rc with pieces := rc.pieces ++ [x] } := by
       rw [hv3]
       exact HKC.out.fa.put_pieces hb2 HKC.out.fp rfl S7 (o7.from_ (Nat.le_refl _))
      have hs5' : Blk W5 w.heap.size 38 ↑v3 := by
       rw [hv3]
       have h5 := hs5
       simp at h5 ⊢
       exact h5
      have hK := hK2.store hs5' hc5 hA
      have hpx := (HPX.out.below hb2 HPX.out.lt).chg1 hc5 (by omega)
      have HXP : Hid (x = rb.pc1 n b) := by
       obtain ⟨_, _, _, a1, a2, a3, a4, a5, _, _, _⟩ := HGP.out
       show x = rb.pc1 n b
       rw [HX.out]
       unfold RS.pc1
       rw [HK.out, a2, a3, a4, a5]
      have HCP : Hid ({ rc with pieces := rc.pieces ++ [x] } = rb.cP n b) := by
       show _ = _
       have h1 : x.id = rb.next := by rw [HX.out, HK.out]
       rw [← HRC.out, h1, HGI.out, HXP.out]
       rfl
      rw [HCP.out] at hK
      clear hs5 hs5' hc5 hA hv3 hK2 hb2 hb7 hb S7 o7 o3 b6 hgr7 hnp hpcl HKC HPX HNP HSL HPC HCP
      obtain ⟨v, rfl⟩ := is_ v3
      obtain ⟨W, rfl⟩ := is_ W5
      try dsimp only [Act.put]
      have HM4 : Hid (r.rules.minLength = v.ml) := by
       have h1 := hK.rules
       have h2 : rb.rules = _ := h1
       rw [HRR.out] at h2
       show _ = _
       rw [h2]
      obtain ⟨lv, hlv⟩ := nm_ (b.length - en)
      have HLV := hide hlv
      have e3w : IntKind.i64.wrap (g.le - en) = lv := by rw [HGL.out, ← hlv]; exact IntWalk.i64_in _ (by have := HOK.out.l; have := HEN.out; have := HN.out.l; omega)
      clear hlv
      by_cases hcm : v.ml ≤ lv
      case' neg =>
       have HCR : Hid (rb.cP n b = r.cut1 n b at_) := by
        show _ = _
        unfold RS.cut1
        rw [HRB.out]
        unfold RS.cR
        rw [if_neg (by rw [show (rb.cP n b).rules = r.rules from HRR.out, HM4.out, HEN.out, HLV.out]; exact hcm)]
       rw [HCR.out] at hK
       have hs := hK.fs
       obtain ⟨c0, c1, c2, c3, c4, c5, c6, c7, c8⟩ := hs.all9
       have hn := hK.fn
       obtain ⟨y0, y1, y2, y3, y4⟩ := hn.all5
       have hx := hK.fx
       obtain ⟨e0, e1, e2, e3, e4, e5, e6, e7, e8⟩ := hx.all9
       clear hs hn hx
       go_upto_region 17 with fail
       clear c0 c1 c2 c3 c4 c5 c6 c7 c8 y0 y1 y2 y3 y4 e0 e1 e2 e3 e4 e5 e6 e7 e8
       clear e3w
      case' pos =>
       have HGQ := hide hK.fv.parts
       have hs := hK.fs
       obtain ⟨c0, c1, c2, c3, c4, c5, c6, c7, c8⟩ := hs.all9
       have hn := hK.fn
       obtain ⟨y0, y1, y2, y3, y4⟩ := hn.all5
       have hx := hK.fx
       obtain ⟨e0, e1, e2, e3, e4, e5, e6, e7, e8⟩ := hx.all9
       clear hs hn hx
       go_wp2_with fail
       refine (behind_n g.A g.c g.n b.faults en W HGQ.out.1 HGQ.out.2.1 (by have := HOK.out.n; omega) (fun q hq => by have := (spans_mem HOK.out.f q hq); have := HOK.out.l; omega) (by have := HEN.out; have := HN.out.l; have := HOK.out.l; omega)).mono ?_
       intro e W3 hcl
       obtain ⟨u, rfl, ⟨Af, cf, rfl, hfs, hfo⟩, hb3⟩ := hcl.fis hK.fp
       clear c0 c1 c2 c3 c4 c5 c6 c7 c8 y0 y1 y2 y3 y4 e0 e1 e2 e3 e4 e5 e6 e7 e8
       have hK3 := hK.call hb3
       have hpx3 := hpx.below hb3 hpx.lt
       clear hK hb3 hcl hpx
       go_upto_region 15 with (refine wpList_store_at rfl 41 _ _ rfl (.slice Af _ cf) hK3.fx rfl rfl (by kernel_rfl) rfl (by simp) rfl ?_; intro W4 hs4 hc4)
       have e7 := hs4.cell_ 7 (v := g.le) rfl
       try dsimp only [Act.put]
       go_upto_region 16 with (refine wpList_store_at rfl 3 _ _ rfl (.int .i64 lv) hs4 rfl rfl (by kernel_rfl) rfl (by simp) rfl ?_; intro W5 hs5 hc5)
       obtain ⟨g2, hg2⟩ : ∃ y : SH, y = ⟨g.id, g.root, g.gr, g.co, g.lo, g.ma, g.wi, lv, Af, (behindR b.faults en).length, cf⟩ := ⟨_, rfl⟩
       have hx5 : Blk W5 bx 93 ↑g2 := by rw [hg2]; exact hs5
       have hv2 : RsV W3 P2 (restS n b at_) g2 := by
        have hgp := hK3.fv
        obtain ⟨A0, c0, he, _⟩ := hgp
        refine ⟨Af, cf, ?_, ?_, ?_⟩
        ·rw [hg2, he]; unfold restS SH.of; rw [HEN.out, HLV.out]
        ·unfold restS; rw [HEN.out]; exact hfs
        ·unfold restS; rw [HEN.out]; exact hfo
       have hK := hK3.storeX hx5 (hc4.trans hc5) hv2
       have hpx := hpx3.chg1 (hc4.trans hc5) (by omega)
       clear hs4 hs5 hc4 hc5 hx5 hv2 hK3 hpx3 e7 hfs hfo hg2 e3w
       obtain ⟨g, rfl⟩ := is_ g2
       obtain ⟨W, rfl⟩ := is_ W5
       try dsimp only [Act.put]
       have HCR : Hid ((rb.cP n b).withI (restS n b at_) = r.cut1 n b at_) := by
        show _ = _
        unfold RS.cut1
        rw [HRB.out]
        unfold RS.cR
        rw [if_pos (by rw [show (rb.cP n b).rules = r.rules from HRR.out, HM4.out, HEN.out, HLV.out]; exact hcm)]
       have hs := hK.fs
       obtain ⟨c0, c1, c2, c3, c4, c5, c6, c7, c8⟩ := hs.all9
       have hn := hK.fn
       obtain ⟨y0, y1, y2, y3, y4⟩ := hn.all5
       have hx := hK.fx
       obtain ⟨e0, e1, e2, e3, e4, e5, e6, e7, e8⟩ := hx.all9
       clear hs hn hx
       go_wp2_with fail
       refine (with_any v (rb.cP n b) P2 (restS n b at_) g W hK.fa hK.fv hK.fp (by have := HRM2.out.it; show rb.items.length ≤ _; omega)).mono ?_
       rintro e W3 ⟨v2, rfl, hA3, hb3⟩
       clear c0 c1 c2 c3 c4 c5 c6 c7 c8 y0 y1 y2 y3 y4 e0 e1 e2 e3 e4 e5 e6 e7 e8
       have hK3 := hK.call hb3
       have hpx3 := hpx.below hb3 hpx.lt
       rw [HCR.out] at hA3
       clear hK hb3 hpx
       go_upto_region 17 with (refine wpList_store_blk rfl 38 _ _ rfl ↑v2 hK3.fs rfl rfl (by kernel_rfl) rfl (by simp [Value.oneCell']) ?_; intro W4 hs4 hc4)
       have hK := hK3.store hs4 hc4 hA3
       have hpx := hpx3.chg1 hc4 (by omega)
       clear hK3 hs4 hc4 hA3 hpx3
       obtain ⟨v, rfl⟩ := is_ v2
       obtain ⟨W, rfl⟩ := is_ W4
       try dsimp only [Act.put]
      all_goals
       have HKF := hide hK
       have HPF := hide hpx
       have HBX9 : Hid (w.heap.size + 3 < hpxb) := by have := hK.fl; show _ < _; omega
       clear hpx hK
       go_wp2_with fail
       refine wp_region_store1 (g := w.heap.size + 2) 3 2 [0, 1] ↑v (.tmp 8) (.tmp 129) (by kernel_rfl) (by kernel_rfl) (by kernel_rfl) (by kernel_rfl) HKF.out.fr rfl rfl rfl (by kernel_rfl) rfl (by simp [Value.oneCell']) ?_
       apply Exists.intro
       refine ⟨fun W1 hc => ?_, ?_⟩
       ·have hx1 := HKF.out.fs.chg1 hc (by omega)
        have hx2 := HPF.out.chg1 hc (by have := HBX9.out; omega)
        obtain ⟨y_c0, y_c1, y_c2, y_c3, y_c4, y_c5, y_c6, y_c7, y_c8⟩ := hx1.sin9
        obtain ⟨y_p0, y_p1, y_p2, y_p3, y_p4, y_p5, y_p6, y_p7⟩ := hx2.sin8
        clear hx1 hx2
        dsimp only [pick, List.filterMap, List.getElem?_cons_succ, List.getElem?_cons_zero]
        repeat (go_big_quiet_step (fail))
        exact wpQuiet_nil rfl
       refine ⟨rfl, rfl, rfl, fun W9 hc9 hr9 => ?_⟩
       have hq9 := HKF.out.fq.chg1 hc9 (by omega)
       simp only [List.drop_succ_cons, List.drop_zero]
       go_wp2_with (refine wpList_store_blk rfl 96 _ _ rfl ↑x hq9 rfl rfl (by kernel_rfl) rfl (by simp [Value.oneCell']) ?_; intro W10 hq10 hc10; have hr10 := hr9.chg1 hc10 (by omega))
       have hK := HKF.out
       have hBw := hK.fb.size
       have hsz9 := hc9.size
       obtain ⟨q0, q1, q2, q3, q4, q5, q6, q7, q8⟩ := hr10.all9
       obtain ⟨p0, p1, p2, p3, p4, p5, p6, p7⟩ := hq10.all8
       have hB10 : Below w.heap.size w W10 := (hK.fb.trans (hc9.below1 hBw (by omega))).trans (hc10.below1 (by omega) (by omega))
       have hA10 : RAt W10 P v (r.cut1 n b at_) := by
        have hin : ∀ j, j < 4 → P2 (w.heap.size + j) := fun j hj => by rw [← HPE.out]; exact .inr (.inl ⟨by omega, by omega⟩)
        have h1 := (hK.fa.chg (hc9.mono fun j _ hj => by subst hj; exact hin 2 (by omega))).chg (hc10.mono fun j _ hj => by subst hj; exact hin 3 (by omega))
        exact h1.less fun j hj => by rw [← HPE.out]; exact .inl hj
       refine bodyPost_ret (v := .tuple #[.agg ↑v, .agg ↑x, .bool true]) (by simp [results, Tryz.results78, go_sem, q0, q1, q2, q3, q4, q5, q6, q7, q8, p0, p1, p2, p3, p4, p5, p6, p7]) rfl ?_
       unfold CutRPost
       rw [HONE2.out]
       exact ⟨v, r.cut1 n b at_, x, rfl, by rw [HXP.out, ← HRB.out], hA10, HREL.out, hB10⟩
end Go.Proofs.YtehlbomkldnalaaGreat

/- The reference's cutAll: the walk. -/
namespace Go.Proofs.YtehlbomkldnalaaGreat
open Go Go.RowKit
def AllRPost (P : Nat → Prop) (s : SS) (n : Need) (lot day : Int) (w : World) (e : Ending) (w' : World) : Prop :=
 match allR s n lot day n.count.toNat with
 | none => ∃ v2 : RV, e = .returned (.tuple #[.agg ↑v2, .slice none 0 0, .bool false]) ∧ Below w.heap.size w w'
 | some q => ∃ (v2 : RV) (r2 : RS) (A : Option Addr) (c : Nat), e = .returned (.tuple #[.agg ↑v2, .slice A q.2.length c, .bool true]) ∧ Slc Piece.enc 8 w' w'.heap.size A q.2 ∧ RAt w' P v2 r2 ∧ Rel r2 q.1 ∧ Below w.heap.size w w' ∧ ∀ ad, A = some ad → w.heap.size ≤ ad.block
theorem own_ad {α : Type} {f : α → List Value} {sz : Nat} {w : World} {base : Nat} {e : TypeId} {A : Option Addr} {n c : Nat} {l : List α} (h : Own w base e sz f (.slice A n c) l) : ∀ ad, A = some ad → base ≤ ad.block := fun ad ha => by
 rcases h.2 with ⟨h1, _⟩ | ⟨g, cap, cur, h1, h2, _⟩
 ·injection h1 with h1
  rw [ha] at h1; cases h1
 ·injection h1 with h1
  rw [ha] at h1
  injection h1 with h1
  subst h1
  exact h2
/-- P, the boxes from a to b, and the block of a list -/
def PO (P : Nat → Prop) (a b : Nat) (v : Value) (k : Nat) : Prop := P k ∨ (a ≤ k ∧ k < b) ∨ v.ownBlock = some k
theorem PO.lt {P : Nat → Prop} {w W : World} {v : Value} {b : Nat} {e : TypeId} {sz base : Nat} {α : Type} {f : α → List Value} {l : List α} (hP : ∀ k, P k → k < w.heap.size) (hw : w.heap.size ≤ W.heap.size) (hb : b ≤ W.heap.size) (hO : Own W base e sz f v l) : ∀ k, PO P w.heap.size b v k → k < W.heap.size := fun k hk => by
 rcases hk with h | h | h
 ·have := hP k h; omega
 ·omega
 ·exact hO.lts k h
theorem rcut_none (v : RV) (r : RS) (s : SS) (P : Nat → Prop) (n : Need) (lot day : Int) (w : World) (h : RAt w P v r) (hR : Rel r s) (hI : Inv s) (hF : Room s 1) (hn : NeedOk n) (hd : 0 ≤ day ∧ day ≤ 100000) (hP : ∀ k, P k → k < w.heap.size) (hc : oneR s n lot day = none) :
  Calls Tryz.prog 78 #[.agg ↑v, lot, .agg ↑n, day] w fun e w' => (∃ v2 : RV, e = .returned (.tuple #[.agg ↑v2, .agg ↑zpA, .bool false])) ∧ Below w.heap.size w w' := by
 refine (rcut_any v r s P n lot day w h hR hI hF hn hd hP).mono ?_
 intro e w' hp
 unfold CutRPost at hp
 rw [hc] at hp
 obtain ⟨v2, h1, _, h3⟩ := hp
 exact ⟨⟨v2, h1⟩, h3⟩
theorem rcut_some (v : RV) (r : RS) (s : SS) (P : Nat → Prop) (n : Need) (lot day : Int) (w : World) (h : RAt w P v r) (hR : Rel r s) (hI : Inv s) (hF : Room s 1) (hn : NeedOk n) (hd : 0 ≤ day ∧ day ≤ 100000) (hP : ∀ k, P k → k < w.heap.size) {q : SS × Piece} (hc : oneR s n lot day = some q) :
  Calls Tryz.prog 78 #[.agg ↑v, lot, .agg ↑n, day] w fun e w' => (∃ (v2 : RV) (r2 : RS) (x : Piece), e = .returned (.tuple #[.agg ↑v2, .agg ↑x, .bool true]) ∧ x = q.2 ∧ RAt w' P v2 r2 ∧ Rel r2 q.1) ∧ Below w.heap.size w w' := by
 refine (rcut_any v r s P n lot day w h hR hI hF hn hd hP).mono ?_
 intro e w' hp
 unfold CutRPost at hp
 rw [hc] at hp
 obtain ⟨v2, r2, x, h1, h2, h3, h4, h5⟩ := hp
 exact ⟨⟨v2, r2, x, h1, h2, h3, h4⟩, h5⟩
/-- where the loop stands -/
def AllAt (s : SS) (n : Need) (lot day : Int) (i : Nat) (si : SS) (ls : List Piece) : Prop := cutAllF n lot day i s = some (si, ls) ∧ (0 < i → lotOk s n lot = true)
theorem AllAt.none_ {s si : SS} {n : Need} {lot day : Int} {i : Nat} {ls : List Piece} (h : AllAt s n lot day i si ls) (hi : Inv s) (hn : NeedOk n) (hlt : (i : Int) < n.count) (ho : oneR si n lot day = none) : allR s n lot day n.count.toNat = none := by
 unfold allR
 cases hk : lotOk s n lot with
 | false => rfl
 | true =>
  rw [if_pos rfl]
  have hk2 := (cutAll_inv hn hi h.1).2.lotOk hk
  unfold oneR at ho
  rw [if_pos hk2] at ho
  exact all_no (all_stop h.1 ho) (by omega)
theorem AllAt.some_ {s si : SS} {n : Need} {lot day : Int} {i : Nat} {ls : List Piece} (h : AllAt s n lot day i si ls) (_hi : Inv s) (_hn : NeedOk n) {q : SS × Piece} (ho : oneR si n lot day = some q) : AllAt s n lot day (i + 1) q.1 (ls ++ [q.2]) ∧ cutOneF si n lot day = some q := by
 unfold oneR at ho
 split at ho
 ·rename_i hk
  refine ⟨⟨all_next h.1 (by rw [ho]), fun _ => ?_⟩, ho⟩
  by_cases h0 : 0 < i
  ·exact h.2 h0
  ·obtain rfl : i = 0 := by omega
   have h1 := h.1
   injection h1 with h1
   injection h1 with h1 _
   rw [h1]; exact hk
 ·cases ho
theorem AllAt.end_ {s si : SS} {n : Need} {lot day : Int} {i : Nat} {ls : List Piece} (h : AllAt s n lot day i si ls) (hn : NeedOk n) (he : (i : Int) = n.count) : allR s n lot day n.count.toNat = some (si, ls) := by
 unfold allR
 have := hn.c
 rw [if_pos (h.2 (by omega)), show n.count.toNat = i by omega]
 exact h.1
set_option maxRecDepth 100000 in
set_option maxHeartbeats 4000000 in
theorem rcutAll_any (v : RV) (r : RS) (s : SS) (P : Nat → Prop) (n : Need) (lot day : Int) (w : World) (h : RAt w P v r) (hR : Rel r s) (hI : Inv s) (hF : Room s n.count.toNat) (hn : NeedOk n) (hd : 0 ≤ day ∧ day ≤ 100000) (hP : ∀ k, P k → k < w.heap.size) :
  Calls Tryz.prog 57 #[.agg ↑v, lot, .agg ↑n, day] w (AllRPost P s n lot day w) := by
 have HR := hide hR
 have HI := hide hI
 have HF := hide hF
 have HN := hide hn
 have HD := hide hd
 have HPP := hide hP
 obtain ⟨hbx, hnx, hr0, hal, hsz⟩ := box3 w 38 45 38 ↑v ↑n ↑zrA
 have HH := hide (h.box hal)
 have HW := hide hal
 clear hR hI hF hn hd hP h
 go_enter Tryz.func57, Tryz.ntmps57
 go_upto_region 1 with fail
 generalize ((w.alloc (.cells ↑v 38)).alloc (.cells ↑n 45)).alloc (.cells ↑zrA 38) = W0 at *
 have HNX := hide hnx
 have HR0 := hide hr0
 have HSZ := hide hsz
 clear hal hsz hnx hr0
 go_upto_region 3 with fail
 go_loopw [11, 12] (fun y z wr => ∃ (i : Nat) (si : SS) (ls : List Piece) (v2 : RV) (r2 : RS), z = .int .i64 i ∧ (i : Int) ≤ n.count ∧ Hid (AllAt s n lot day i si ls) ∧ Hid (Inv si ∧ Room si (n.count.toNat - i) ∧ Rel r2 si) ∧ ls.length = i ∧ Own wr (w.heap.size + 3) 96 8 Piece.enc y ls ∧ Blk wr w.heap.size 38 ↑v2 ∧ Blk wr (w.heap.size + 1) 45 ↑n ∧ Blk wr (w.heap.size + 2) 38 ↑zrA ∧ RAt wr (PO P w.heap.size (w.heap.size + 3) y) v2 r2 ∧ Below w.heap.size w wr) (fun _ z _ => n.count.toNat - (intOf z).toNat)
 case atStart =>
  refine ⟨0, s, [], v, r, rfl, by have := HN.out.c; omega, ⟨rfl, fun h => by omega⟩, ⟨HI.out, HF.out, HR.out⟩, rfl, Own.nil_, hbx, HNX.out, HR0.out, ?_, HW.out⟩
  exact HH.out.less fun k hk => by
   rcases hk with h1 | h1 | h1
   ·exact .inl h1
   ·exact .inr ⟨h1.1, by have := HSZ.out; omega⟩
   ·cases h1
 case round =>
  clear hbx
  obtain ⟨W, rfl⟩ := is_ wr
  obtain ⟨i, si, ls, v2, r2, rfl, hi, HA, HQ, hll, hO, hs, hn, hr, hA, hB⟩ := hrel
  obtain ⟨y, rfl⟩ := is_ u11
  have HLL := hide hll
  have hlb : ls.length ≤ 50 := by have := HN.out.c; omega
  clear hll
  by_cases hlt : (i : Int) < n.count
  ·have hi50 : i < 50 := by have := HN.out.c; omega
   have ei := wsuc i (by omega)
   have hB3 : w.heap.size + 3 ≤ W.heap.size := by have := hr.lt; omega
   have hP2 := PO.lt (b := w.heap.size + 3) HPP.out hB.size hB3 hO
   have HRM : Hid (Room si 1) := HQ.out.2.1.less (by have := HN.out.c; omega)
   have HPO := hide hP2
   have HAA := hide hA
   obtain ⟨c0, c1, c2, c3, c4, c5, c6, c7, c8⟩ := hs.all9
   obtain ⟨y0, y1, y2, y3, y4⟩ := hn.all5
   clear hA hP2
   cases ho : oneR si n lot day with
   | none =>
    have HE := hide (HA.out.none_ HI.out HN.out hlt ho)
    have HO := hide ho
    clear ho
    go_wp2_with fail
    refine (rcut_none v2 r2 si _ n lot day W HAA.out HQ.out.2.2 HQ.out.1 HRM.out HN.out HD.out HPO.out HO.out).mono ?_
    rintro e W2 ⟨⟨v3, rfl⟩, hb2⟩
    have hal := ((Below.refl W2.heap.size W2).alloc (Nat.le_refl _) (.cells ↑v3 38)).alloc (by simp) (.cells ↑zpA 96)
    go_upto_region 7 with fail
    generalize (W2.alloc (.cells ↑v3 38)).alloc (.cells ↑zpA 96) = W3 at *
    replace hb2 := hb2.trans (hal.mono hb2.size)
    replace hs := hs.below hb2 hs.lt
    replace hr := hr.below hb2 hr.lt
    replace hB := hB.trans (hb2.mono hB.size)
    clear c0 c1 c2 c3 c4 c5 c6 c7 c8 y0 y1 y2 y3 y4 hn hO hal hb2
    obtain ⟨c0, c1, c2, c3, c4, c5, c6, c7, c8⟩ := hs.all9
    go_wp2_with (refine wpList_store_blk rfl 38 _ _ rfl ↑v2 hr rfl rfl (by kernel_rfl) rfl (by simp [Value.oneCell']) ?_; intro W9 hr9 hc9; obtain ⟨q0, q1, q2, q3, q4, q5, q6, q7, q8⟩ := hr9.all9)
    refine bodyPost_ret (v := .tuple #[.agg ↑v2, .slice none 0 0, .bool false]) (by simp [results, Tryz.results57, go_sem, q0, q1, q2, q3, q4, q5, q6, q7, q8]) rfl ?_
    unfold AllRPost
    rw [HE.out]
    exact ⟨v2, rfl, hB.trans (hc9.below1 hB.size (by omega))⟩
   | some q =>
    have HE := hide (HA.out.some_ HI.out HN.out ho)
    have HO := hide ho
    clear ho
    go_wp2_with fail
    refine (rcut_some v2 r2 si _ n lot day W HAA.out HQ.out.2.2 HQ.out.1 HRM.out HN.out HD.out HPO.out HO.out).mono ?_
    rintro e W2 ⟨⟨v3, r3, x, rfl, hxq, hA3, hR3⟩, hb2⟩
    have HXQ := hide hxq
    clear hxq
    have hg1 := (Blk.new W2 38 ↑v3).alloc (.cells ↑x 96)
    have hg2 := Blk.new (W2.alloc (.cells ↑v3 38)) 96 ↑x
    rw [show (W2.alloc (.cells ↑v3 38)).heap.size = W2.heap.size + 1 by simp] at hg2
    have hal := ((Below.refl W2.heap.size W2).alloc (Nat.le_refl _) (.cells ↑v3 38)).alloc (by simp) (.cells ↑x 96)
    go_upto_region 8 with fail
    have hlt2 := hO.lts
    have hs2 := hb2.size
    obtain ⟨gx, hgx⟩ := nm_ W2.heap.size
    have hA4 := hA3.below hal
    have hb3 := hb2.trans (hal.mono hb2.size)
    rw [hgx] at hg1 hg2 hs2 ⊢
    generalize (W2.alloc (.cells ↑v3 38)).alloc (.cells ↑x 96) = W3 at *
    have hO3 := hO.below hb3
    replace hs := hs.below hb3 hs.lt
    replace hn := hn.below hb3 hn.lt
    replace hr := hr.below hb3 hr.lt
    replace hB := hB.trans (hb3.mono hB.size)
    have hll2 : ls.length + 1 ≤ 1000000000 := by omega
    have hbase : w.heap.size + 3 ≤ W3.heap.size := by have := hr.lt; omega
    have hob := own_base hO
    have HOWN : Hid (∀ k, y.ownBlock = some k → w.heap.size + 3 ≤ k ∧ k < gx) := fun k hk => ⟨hob k hk, by have := hlt2 k hk; omega⟩
    have HG1 := hide hg1
    have HG2 := hide hg2
    have HA4 := hide hA4
    have HR3 := hide hR3
    clear c0 c1 c2 c3 c4 c5 c6 c7 c8 y0 y1 y2 y3 y4 hO hal hb2 hb3 hgx hg1 hg2 hA3 hA4 hR3 HAA HPO hlt2 hob
    refine wp_region_app2 5 3 4 [0, 1, 2] (.tmp 35) (.tmp 37) (cs := ↑x) (y := x) (by kernel_rfl) (by kernel_rfl) (by kernel_rfl) (by kernel_rfl) et_piece hO3 pce_len pce_one hll2 hbase rfl (by decide) rfl rfl rfl ?_
    apply Exists.intro
    refine ⟨fun W1 hc => ?_, ?_⟩
    ·have hx1 := HG1.out.chg hc (fun h => by have := HOWN.out _ h; omega)
     have hx2 := HG2.out.chg hc (fun h => by have := HOWN.out _ h; omega)
     obtain ⟨y_c0, y_c1, y_c2, y_c3, y_c4, y_c5, y_c6, y_c7, y_c8⟩ := hx1.sin9
     obtain ⟨y_p0, y_p1, y_p2, y_p3, y_p4, y_p5, y_p6, y_p7⟩ := hx2.sin8
     clear hx1 hx2
     dsimp only [pick, List.filterMap, List.getElem?_cons_succ, List.getElem?_cons_zero]
     repeat (go_big_quiet_step (fail))
     exact wpQuiet_nil rfl
    refine ⟨rfl, fun w1 => exec_build rfl (by simp [Act.eval] <;> rfl) (run_build1 et_piece (.agg ↑x) rfl (by omega) w1), fun gz => ⟨rfl, rfl, rfl, fun ga ca W4 hc4 hO4 hga => ?_⟩⟩
    have hs4 := hs.chg hc4 (fun h => by have := HOWN.out _ h; omega)
    have hn4 := hn.chg hc4 (fun h => by have := HOWN.out _ h; omega)
    have hr4 := hr.chg hc4 (fun h => by have := HOWN.out _ h; omega)
    have hB4 := hB.trans (hc4.to_below hB.size fun k hk h => by have := HOWN.out _ h; omega)
    have hsz4 := hc4.size
    dsimp only [Act.put]
    simp only [List.setIfInBounds_toArray, List.set_cons_succ, List.set_cons_zero, List.drop_succ_cons, List.drop_zero]
    go_wp2_with (refine wpList_store_blk rfl 38 _ _ rfl ↑v3 hs4 rfl rfl (by kernel_rfl) rfl (by simp [Value.oneCell']) ?_; intro W5 hs5 hc5)
    have hO5 := hO4.chgN hc5 fun k hk he => by have := own_base hO4 k hk; omega
    have hA5 : RAt W5 (PO P w.heap.size (w.heap.size + 3) (.slice (some ⟨ga, 0, none⟩) (ls.length + 1) ca)) v3 r3 := by
     have h1 := HA4.out.more (P' := fun k => PO P w.heap.size (w.heap.size + 3) y k ∨ ga = k) fun k hk => by
      rcases hk with h | h
      ·exact .inl h
      ·rcases hga with h9 | h9
       ·exact .inr (by omega)
       ·exact .inl (.inr (.inr (by rw [h9, h])))
     have h2 := h1.chg (hc4.mono fun k _ hk => .inl (.inr (.inr hk)))
     have h3 := h2.chg (hc5.mono fun k _ hk => by subst hk; exact .inl (.inr (.inl ⟨Nat.le_refl _, by omega⟩)))
     exact h3.less fun k hk => by
      rcases hk with h | h | h
      ·exact .inl (.inl h)
      ·exact .inl (.inr (.inl h))
      ·injection h with h; exact .inr h
    have hn5 := hn4.chg1 hc5 (by omega)
    have hr5 := hr4.chg1 hc5 (by omega)
    have hB5 := hB4.trans (hc5.below1 hB4.size (by omega))
    have HQ2 : Hid (Inv q.1 ∧ Room q.1 (n.count.toNat - (i + 1)) ∧ Rel r3 q.1) :=
     ⟨(cutAll_inv HN.out HI.out HE.out.1.1).1, room_one (s' := q.1) (q := q.2) (HQ.out.2.1.less (by omega)) (by rw [HE.out.2]), HR3.out⟩
    have HE2 : Hid (AllAt s n lot day (i + 1) q.1 (ls ++ [x])) := by have := HE.out.1; rw [← HXQ.out] at this; exact this
    have hl6 : (ls ++ [x]).length = i + 1 := by simp [HLL.out]
    clear hs hn hr hB hs4 hn4 hr4 hB4 hc4 hc5 hO3 hO4 hga
    go_roundw
    case rel => exact ⟨i + 1, q.1, ls ++ [x], v3, r3, by go_num, by omega, HE2, HQ2, hl6, by simpa using hO5, hs5, hn5, hr5, hA5, hB5⟩
    case measure => simp [intOf]; omega
  ·have hie : (i : Int) = n.count := by omega
   have HE := hide (HA.out.end_ HN.out hie)
   clear hie
   obtain ⟨A, c, rfl, hsl⟩ := hO.form pce_len
   have HOW := hide hO
   have HAA := hide hA
   have y4 := hn.cell_ 4 (v := n.count) rfl
   obtain ⟨c0, c1, c2, c3, c4, c5, c6, c7, c8⟩ := hs.all9
   clear hO hA hn hs hsl
   go_wp2_with (refine wpList_store_blk rfl 38 _ _ rfl ↑v2 hr rfl rfl (by kernel_rfl) rfl (by simp [Value.oneCell']) ?_; intro W9 hr9 hc9; obtain ⟨q0, q1, q2, q3, q4, q5, q6, q7, q8⟩ := hr9.all9)
   refine bodyPost_ret (v := .tuple #[.agg ↑v2, .slice A ls.length c, .bool true]) (by simp [results, Tryz.results57, go_sem, q0, q1, q2, q3, q4, q5, q6, q7, q8]) rfl ?_
   have hB3 : w.heap.size + 3 ≤ W.heap.size := by have := hr.lt; omega
   have hO9 := HOW.out.chgN hc9 fun k hk he => by have := own_base HOW.out k hk; omega
   unfold AllRPost
   rw [HE.out]
   refine ⟨v2, r2, A, c, rfl, hO9.slc pce_len, ?_, HQ.out.2.2, hB.trans (hc9.below1 hB.size (by omega)), fun ad ha => ?_⟩
   rotate_left
   ·have := own_ad HOW.out ad ha
    omega
   exact (HAA.out.chg (hc9.mono fun k _ hk => by subst hk; exact .inr (.inl ⟨by omega, by omega⟩))).less fun k hk => .inl hk
end Go.Proofs.YtehlbomkldnalaaGreat

/- The reference's lots: plain. -/
namespace Go.Proofs.YtehlbomkldnalaaGreat
open Go Go.RowKit
def keyH (h : RH) : Int := h.ma * 2000000000 + h.lo
def key2 (s : SS) (lot : Int) : Int := madeF s lot * 2000000000 + lot
noncomputable def pickH (r : RS) (s : SS) (n : Need) (day : Int) (h : RH) : Bool := decide (((r.lotR h.lo).getD default).id = h.id) && (allR s n h.lo day n.count.toNat).isSome
noncomputable def lotsH (r : RS) (s : SS) (n : Need) (day : Int) (i : Nat) : List RH := (r.rolls.take i).filter (pickH r s n day)
section
variable {r : RS} {s : SS} {n : Need} {day : Int}
theorem lotsH_yes {i : Nat} {x : RH} (h : r.rolls[i]? = some x) (hp : pickH r s n day x = true) : lotsH r s n day (i + 1) = lotsH r s n day i ++ [x] := by
 unfold lotsH
 rw [List.take_add_one, h, Option.toList_some, List.filter_append, List.filter_cons, if_pos hp, List.filter_nil]
theorem lotsH_no {i : Nat} {x : RH} (h : r.rolls[i]? = some x) (hp : pickH r s n day x = false) : lotsH r s n day (i + 1) = lotsH r s n day i := by
 unfold lotsH
 rw [List.take_add_one, h, Option.toList_some, List.filter_append, List.filter_cons, if_neg (by rw [hp]; decide), List.filter_nil, List.append_nil]
theorem lotsH_len (i : Nat) : (lotsH r s n day i).length ≤ i := Nat.le_trans (List.length_filter_le _ _) (by rw [List.length_take]; omega)
theorem insK_congr {α : Type} {k k' : α → Int} {a : α} : ∀ {l : List α}, (∀ b ∈ l, k a < k b ↔ k' a < k' b) → insK k a l = insK k' a l
 | [], _ => rfl
 | b :: l, h => by
  unfold insK
  have h1 := h b (by simp)
  rw [insK_congr fun c hc => h c (by simp [hc])]
  by_cases e : k a < k b
  ·rw [if_pos e, if_pos (h1.1 e)]
  ·rw [if_neg e, if_neg (fun h => e (h1.2 h))]
theorem fold_congr (h1 : ∀ x, 0 ≤ madeF s x ∧ madeF s x ≤ 100000) : ∀ (l acc : List Int), (∀ a ∈ l, ∀ b ∈ acc, b < a) → l.Pairwise (· < ·) → (∀ x ∈ l, 1 ≤ x ∧ x ≤ 1000000000) → (∀ x ∈ acc, 1 ≤ x ∧ x ≤ 1000000000) →
  l.foldl (fun acc a => insK (madeF s) a acc) acc = l.foldl (fun acc a => insK (key2 s) a acc) acc
 | [], _, _, _, _, _ => rfl
 | a :: l, acc, h2, h3, h4, h5 => by
  have h6 := List.pairwise_cons.1 h3
  rw [List.foldl_cons, List.foldl_cons]
  have e : insK (madeF s) a acc = insK (key2 s) a acc := insK_congr fun b hb => by
   have b1 := h2 a (by simp) b hb
   have b2 := h4 a (by simp)
   have b3 := h5 b hb
   unfold key2
   omega
  rw [e]
  have hm : ∀ x ∈ insK (key2 s) a acc, x = a ∨ x ∈ acc := fun x hx => List.mem_cons.1 ((insK_perm (key2 s) a acc).subset hx)
  refine fold_congr h1 l _ (fun c hc b hb => ?_) h6.2 (fun x hx => h4 x (by simp [hx])) (fun x hx => ?_)
  ·rcases hm b hb with rfl | hb
   ·exact h6.1 c hc
   ·exact h2 c (by simp [hc]) b hb
  ·rcases hm x hx with rfl | hx
   ·exact h4 _ (by simp)
   ·exact h5 x hx
theorem map_inj {α : Type} {f : α → Int} : ∀ {l : List α}, (l.map f).Nodup → ∀ {a b : α}, a ∈ l → b ∈ l → f a = f b → a = b
 | [], _, _, _, h, _, _ => by cases h
 | x :: l, hn, a, b, ha, hb, e => by
  rw [List.map_cons, List.nodup_cons] at hn
  rcases List.mem_cons.1 ha with h1 | h1
  ·rcases List.mem_cons.1 hb with h2 | h2
   ·rw [h1, h2]
   ·exact absurd (List.mem_map.2 ⟨b, h2, by rw [← e, h1]⟩) hn.1
  ·rcases List.mem_cons.1 hb with h2 | h2
   ·exact absurd (List.mem_map.2 ⟨a, h1, by rw [e, h2]⟩) hn.1
   ·exact map_inj hn.2 h1 h2 e
theorem lotR_mem {lot : Int} {g : RH} (h : r.lotR lot = some g) : g ∈ r.rolls ∧ g.lo = lot := by
 refine ⟨List.mem_of_find?_eq_some h, ?_⟩
 have := List.find?_some h
 simpa using this
theorem lotOk_look {lot : Int} (h : lotOk s n lot = true) : ∃ q, look s.lots lot = some q := by
 unfold lotOk at h
 cases e : look s.lots lot with
 | none => rw [e] at h; cases h
 | some q => exact ⟨q, rfl⟩
theorem allR_some {lot : Int} (h : (allR s n lot day n.count.toNat).isSome = true) : lotOk s n lot = true ∧ (cutAllF n lot day n.count.toNat s).isSome = true := by
 unfold allR at h
 split at h
 ·exact ⟨by assumption, h⟩
 ·cases h
/-- a roll that is picked is its lot's first -/
theorem pickH_first (h : Rel r s) {x : RH} (hx : x ∈ r.rolls) (hp : pickH r s n day x = true) : r.lotR x.lo = some x ∧ (allR s n x.lo day n.count.toNat).isSome = true := by
 unfold pickH at hp
 rw [Bool.and_eq_true, decide_eq_true_eq] at hp
 obtain ⟨q, hq⟩ := lotOk_look (allR_some hp.2).1
 obtain ⟨g, hg, _⟩ := h.made hq
 have h1 := hp.1
 rw [hg] at h1
 have := map_inj h.nd (lotR_mem hg).1 hx h1
 rw [← this]
 exact ⟨by rw [(lotR_mem hg).2]; exact hg, by rw [this]; exact hp.2⟩
theorem pickH_made (h : Rel r s) {x : RH} (hx : r.lotR x.lo = some x) : madeF s x.lo = x.ma ∧ ∃ q, look s.lots x.lo = some q := by
 have := h.lo x.lo
 rw [hx] at this
 unfold madeF
 rw [← this]
 exact ⟨rfl, _, rfl⟩
theorem lotsR_is (h : Rel r s) (hi : Inv s) (hn : needB n day = true) : (sortK keyH (lotsH r s n day r.rolls.length)).map (·.lo) = lotsL s n day := by
 have hF : ∀ x ∈ lotsH r s n day r.rolls.length, x ∈ r.rolls ∧ r.lotR x.lo = some x ∧ (allR s n x.lo day n.count.toNat).isSome = true := fun x hx => by
  unfold lotsH at hx
  rw [List.take_length, List.mem_filter] at hx
  exact ⟨hx.1, pickH_first h hx.1 hx.2⟩
 have hbd := made_bd hi
 have hks : (lotsOfF s n).Pairwise (· < ·) := (keys_strict hi.kl).filter _
 have hkb : ∀ x ∈ lotsOfF s n, 1 ≤ x ∧ x ≤ 1000000000 := fun x hx => by
  unfold lotsOfF at hx
  obtain ⟨q, hq⟩ := lotOk_look (List.mem_filter.1 hx).2
  exact (hi.lo x q hq).1
 have hord : ordF s n = sortK (key2 s) (lotsOfF s n) := by
  unfold ordF sortK
  exact fold_congr hbd _ [] (fun a _ b hb => by cases hb) hks hkb (fun x hx => by cases hx)
 unfold lotsL
 rw [if_pos hn, hord]
 have hp1 := sortK_perm keyH (lotsH r s n day r.rolls.length)
 have hp2 := sortK_perm (key2 s) (lotsOfF s n)
 have hnR : r.rolls.Nodup := by
  have := h.nd
  unfold List.Nodup at this
  rw [List.pairwise_map] at this
  exact this.imp fun {a b} hab e => hab (by rw [e])
 refine List.Perm.eq_of_pairwise (le := fun a b => key2 s a ≤ key2 s b) (fun a b ha hb g1 g2 => ?_) ?_ ?_ ?_
 ·have hbb := hkb b (hp2.subset (List.mem_filter.1 hb).1)
  obtain ⟨x, hx, rfl⟩ := List.mem_map.1 ha
  obtain ⟨_, h3, _⟩ := hF x (hp1.subset hx)
  obtain ⟨_, q, hq⟩ := pickH_made h h3
  have h4 := (hi.lo _ _ hq).1
  have h5 := hbd x.lo
  have h6 := hbd b
  unfold key2 at g1 g2
  omega
 ·rw [List.pairwise_map]
  refine (sortK_asc keyH _).imp_of_mem fun {a b} ha hb hab => ?_
  have h1 := (pickH_made h (hF a (hp1.subset ha)).2.1).1
  have h2 := (pickH_made h (hF b (hp1.subset hb)).2.1).1
  unfold key2
  unfold keyH at hab
  rw [h1, h2]
  exact hab
 ·unfold lotsF
  exact (sortK_asc (key2 s) _).filter _
 ·refine (List.perm_ext_iff_of_nodup ?_ ?_).2 fun lot => ?_
  ·refine (hp1.map (·.lo)).nodup_iff.2 ?_
   unfold List.Nodup
   rw [List.pairwise_map]
   have hnd : (lotsH r s n day r.rolls.length).Nodup := by
    unfold lotsH
    rw [List.take_length]
    exact hnR.filter _
   refine List.Pairwise.imp_of_mem (fun {a b} ha hb hab e => hab ?_) hnd
   have h1 := (hF a ha).2.1
   have h2 := (hF b hb).2.1
   rw [e, h2] at h1
   injection h1 with h1
   exact h1.symm
  ·unfold lotsF
   exact (hp2.nodup_iff.2 (hks.imp fun {a b} hab e => by omega)).filter _
  ·unfold lotsF
   rw [List.mem_map, List.mem_filter, hp2.mem_iff]
   constructor
   ·rintro ⟨x, hx, rfl⟩
    obtain ⟨h1, h2, h3⟩ := hF x (hp1.subset hx)
    obtain ⟨h4, h5⟩ := allR_some h3
    refine ⟨?_, h5⟩
    unfold lotsOfF
    rw [List.mem_filter, keys_mem]
    obtain ⟨q, hq⟩ := lotOk_look h4
    exact ⟨⟨q, (look_some_iff hi.kl).1 hq⟩, h4⟩
   ·rintro ⟨h1, h2⟩
    unfold lotsOfF at h1
    have hok := (List.mem_filter.1 h1).2
    obtain ⟨q, hq⟩ := lotOk_look hok
    obtain ⟨g, hg, _⟩ := h.made hq
    have hgl := (lotR_mem hg).2
    refine ⟨g, hp1.mem_iff.2 ?_, hgl⟩
    unfold lotsH
    rw [List.take_length, List.mem_filter]
    refine ⟨(lotR_mem hg).1, ?_⟩
    unfold pickH
    rw [Bool.and_eq_true, decide_eq_true_eq, hgl, hg]
    refine ⟨rfl, ?_⟩
    unfold allR
    rw [if_pos hok]
    exact h2
/-- a new element on its way down -/
def bubG {α : Type} (S : List α) (p : Nat) (a : α) : List α := S.take p ++ a :: S.drop p
variable {α : Type}
theorem bubG_len {S : List α} {p : Nat} {a : α} (hp : p ≤ S.length) : (bubG S p a).length = S.length + 1 := by
 unfold bubG
 rw [List.length_append, List.length_take, List.length_cons, List.length_drop]
 omega
theorem bubG_all (S : List α) (a : α) : bubG S S.length a = S ++ [a] := by unfold bubG; simp
theorem bubG_at {a : α} : ∀ {S : List α} {p : Nat}, p ≤ S.length → (bubG S p a)[p]? = some a
 | S, 0, _ => rfl
 | [], p + 1, h => by simp at h
 | y :: r, p + 1, h => by
  have := bubG_at (a := a) (S := r) (p := p) (by simpa using h)
  simpa [bubG] using this
theorem bubG_prev {a x : α} : ∀ {S : List α} {q : Nat}, S[q]? = some x → (bubG S (q + 1) a)[q]? = some x
 | [], _, h => by simp at h
 | y :: r, 0, h => by simpa [bubG] using h
 | y :: r, q + 1, h => by
  have := bubG_prev (a := a) (S := r) (q := q) (by simpa using h)
  simpa [bubG] using this
theorem bubG_step {a x : α} : ∀ {S : List α} {q : Nat}, S[q]? = some x → ((bubG S (q + 1) a).set (q + 1) x).set q a = bubG S q a
 | [], _, h => by simp at h
 | y :: r, 0, h => by
  simp at h
  subst h
  rfl
 | y :: r, q + 1, h => by
  have := bubG_step (a := a) (S := r) (q := q) (by simpa using h)
  show y :: _ = y :: _
  exact congrArg (y :: ·) this
theorem asc_leG {key : α → Int} {S : List α} (h : S.Pairwise fun x y => key x ≤ key y) {j q : Nat} {x y : α} (hj : S[j]? = some x) (hq : S[q]? = some y) (hjq : j ≤ q) : key x ≤ key y := by
 by_cases e : j = q
 ·subst e
  rw [hj] at hq
  injection hq with hq
  rw [hq]
  exact Int.le_refl _
 ·obtain ⟨hj1, hj2⟩ := List.getElem?_eq_some_iff.1 hj
  obtain ⟨hq1, hq2⟩ := List.getElem?_eq_some_iff.1 hq
  have := List.pairwise_iff_getElem.1 h j q hj1 hq1 (by omega)
  rwa [hj2, hq2] at this
theorem insG_bub {key : α → Int} {S : List α} {p : Nat} {a : α} (h : S.Pairwise fun x y => key x ≤ key y) (hp : p ≤ S.length) (h1 : ∀ q x, p = q + 1 → S[q]? = some x → key x ≤ key a) (h2 : ∀ x ∈ S.drop p, key a < key x) : insK key a S = bubG S p a := by
 refine insK_split key a S p hp (fun i x hi hx => ?_) (fun x hx => h2 x ?_)
 ·obtain ⟨q, rfl⟩ : ∃ q, p = q + 1 := ⟨p - 1, by omega⟩
  have hq : S[q]? = some S[q] := List.getElem?_eq_getElem (by omega)
  have := asc_leG h hx hq (by omega)
  have := h1 q _ rfl hq
  omega
 ·refine List.mem_of_getElem? (i := 0) ?_
  rw [List.getElem?_drop]
  exact hx
end
end Go.Proofs.YtehlbomkldnalaaGreat
