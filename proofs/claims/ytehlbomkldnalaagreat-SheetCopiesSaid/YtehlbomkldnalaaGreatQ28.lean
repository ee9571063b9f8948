/- Parts of the proofs of this seat: RfLots, RfTake, ClP, RfRecP, RfRec, Cl0, Cl1, Cl2, RfUse, Cl3, Cl4, Cl5, Cl6, Cl7. Each part says what it proves; no condition beyond those stated there. -/
import Derived.Test.YtehlbomkldnalaaGreatQ10
import Derived.Test.YtehlbomkldnalaaGreatQ14
import Derived.Test.YtehlbomkldnalaaGreatQ16
import Derived.Test.YtehlbomkldnalaaGreatQ17
import Derived.Test.YtehlbomkldnalaaGreatQ22
import Derived.Test.YtehlbomkldnalaaGreatQ23
import Derived.Test.YtehlbomkldnalaaGreatQ24
import Derived.Test.YtehlbomkldnalaaGreatQ26
import Derived.Test.YtehlbomkldnalaaGreatQ27

/- The reference's Lots: the walk. -/
namespace Go.Proofs.YtehlbomkldnalaaGreat
open Go Go.RowKit
theorem rcutAll_ok (v : RV) (r : RS) (s : SS) (P : Nat → Prop) (n : Need) (lot day : Int) (w : World) (h : RAt w P v r) (hR : Rel r s) (hI : Inv s) (hF : Room s n.count.toNat) (hn : NeedOk n) (hd : 0 ≤ day ∧ day ≤ 100000) (hP : ∀ k, P k → k < w.heap.size) {b : Bool} (hb : (allR s n lot day n.count.toNat).isSome = b) :
  Calls Tryz.prog 57 #[.agg ↑v, lot, .agg ↑n, day] w fun e w' => (∃ (v2 : RV) (A : Option Addr) (m c : Nat), e = .returned (.tuple #[.agg ↑v2, .slice A m c, .bool b])) ∧ Below w.heap.size w w' := by
 subst hb
 refine (rcutAll_any v r s P n lot day w h hR hI hF hn hd hP).mono ?_
 intro e w' hp
 unfold AllRPost at hp
 cases ha : allR s n lot day n.count.toNat with
 | none =>
  rw [ha] at hp
  obtain ⟨v2, h1, h2⟩ := hp
  exact ⟨⟨v2, none, 0, 0, h1⟩, h2⟩
 | some q =>
  rw [ha] at hp
  obtain ⟨v2, r2, A, c, h1, _, _, _, h2, _⟩ := hp
  exact ⟨⟨v2, A, _, c, h1⟩, h2⟩
theorem pickH_bd {r : RS} {s : SS} {n : Need} {day : Int} (h : Rel r s) (hi : Inv s) {x : RH} (hx : x ∈ r.rolls) (hp : pickH r s n day x = true) : 1 ≤ x.lo ∧ x.lo ≤ 1000000000 := by
 obtain ⟨_, q, hq⟩ := pickH_made h (pickH_first h hx hp).1
 exact (hi.lo _ q hq).1
theorem lotsH_bd {r : RS} {s : SS} {n : Need} {day : Int} (h : Rel r s) (hi : Inv s) {i : Nat} : ∀ x ∈ lotsH r s n day i, 1 ≤ x.lo ∧ x.lo ≤ 1000000000 := fun x hx => by
 unfold lotsH at hx
 rw [List.mem_filter] at hx
 exact pickH_bd h hi (List.mem_of_mem_take hx.1) hx.2
set_option maxRecDepth 100000 in
set_option maxHeartbeats 4000000 in
theorem rlots_any (v : RV) (r : RS) (s : SS) (P : Nat → Prop) (n : Need) (day : Int) (w : World) (h : RAt w P v r) (hR : Rel r s) (hI : Inv s) (hF : Room s 50) (hP : ∀ k, P k → k < w.heap.size) :
  Calls Tryz.prog 19 #[.agg ↑v, .agg ↑n, day] w fun e w' => ∃ A c, e = .returned (.tuple #[.slice A (lotsL s n day).length c, .int .i64 (lotsE n day)]) ∧ Slc intEnc 1 w' w'.heap.size A (lotsL s n day) ∧ Below w.heap.size w w' ∧ ∀ ad, A = some ad → w.heap.size ≤ ad.block := by
 have HR := hide hR
 have HI := hide hI
 have HF := hide hF
 have HLN := hide (hR.lens hI hF.few)
 have HPP := hide hP
 obtain ⟨hs, hn, hal, hsz⟩ := box2 w 38 45 ↑v ↑n
 go_enter Tryz.func19, Tryz.ntmps19
 go_upto_region 1 with fail
 generalize (w.alloc (.cells ↑v 38)).alloc (.cells ↑n 45) = Wb at *
 have HH := hide (h.box hal)
 have HP2 : Hid (∀ k, PB P w.heap.size Wb.heap.size k → k < Wb.heap.size) := PB.lt hP hal.size
 clear hR hI hF h hP hsz
 obtain ⟨y0, y1, y2, y3, y4⟩ := hn.all5
 go_wp2_with fail
 refine (needs_any n day Wb).mono ?_
 rintro e W1 ⟨rfl, hb1⟩
 have HBB := hide (hal.trans (hb1.mono hal.size))
 have HS := hide (hs.below hb1 hs.lt)
 have HNB := hide (hn.below hb1 hn.lt)
 have HA := hide (HH.out.below hb1)
 have HP1 : Hid (∀ k, PB P w.heap.size Wb.heap.size k → k < W1.heap.size) := fun k hk => Nat.lt_of_lt_of_le (HP2.out k hk) hb1.size
 clear y0 y1 y2 y3 y4 hs hn hal hb1
 cases hv : needB n day with
 | false =>
  have HE : Hid (lotsE n day = 2) := (take_bad (s := s) hv).2.2.2
  have HL : Hid (lotsL s n day = []) := (take_bad (s := s) hv).2.2.1
  have he : needE n day = 2 := by unfold needE; rw [hv]; rfl
  rw [he]
  clear he hv
  go_wp2_with fail
  go_ret2
  exact ⟨none, 0, by rw [HL.out, HE.out]; rfl, by rw [HL.out]; exact Slc.nil_, HBB.out, fun ad h => by cases h⟩
 | true =>
  have HE : Hid (lotsE n day = 0) := by show _ = _; unfold lotsE; rw [hv]; rfl
  have he : needE n day = 0 := by unfold needE; rw [hv]; rfl
  rw [he]
  obtain ⟨hno, hdo⟩ := needB_ok hv
  have HN := hide hno
  have HD := hide hdo
  have HV := hide hv
  have HRM : Hid (Room s n.count.toNat) := HF.out.less (by have := hno.c; omega)
  clear he hv hno hdo
  have hnb : v.nr ≤ 1000000 := by rw [HH.out.nr]; exact HLN.out.2.2.2.1
  go_upto_region 6 with fail
  go_loopw [9, 10] (fun y z wr => ∃ (i : Nat), z = .int .i64 i ∧ i ≤ v.nr ∧ Own wr W1.heap.size 43 8 RH.enc y (sortK keyH (lotsH r s n day i)) ∧ Below W1.heap.size W1 wr) (fun _ z _ => v.nr - (intOf z).toNat)
  case atStart => exact ⟨0, rfl, Nat.zero_le _, Own.nil_, Below.refl _ _⟩
  case round =>
   obtain ⟨W, rfl⟩ := is_ wr
   obtain ⟨i, rfl, hi, hO, hB⟩ := hrel
   obtain ⟨lv, rfl⟩ := is_ u9
   have c5 := (HS.out.below hB HS.out.lt).cell_ 5 (v := .slice v.Ar v.nr v.cr) rfl
   by_cases hlt : i < v.nr
   ·obtain ⟨x, hx⟩ : ∃ x, r.rolls[i]? = some x := ⟨_, List.getElem?_eq_getElem (by rw [← HH.out.nr]; exact hlt)⟩
    obtain ⟨b1, o1, hA1, _, d0, d1, d2, d3, d4, d5, d6, d7⟩ := rh_at (HA.out.below hB).rolls hx
    have hii : (i : Int) < (v.nr : Int) := by omega
    have ei := wsuc i (by omega)
    have HX := hide hx
    rw [hA1] at c5
    clear hx hA1
    have hxb := Blk.new W 43 #[x.id, x.gr, x.co, x.lo, x.ma, x.wi, x.le, .slice x.A x.n x.c]
    have hal := (Below.refl W.heap.size W).alloc (Nat.le_refl _) (.cells #[x.id, x.gr, x.co, x.lo, x.ma, x.wi, x.le, .slice x.A x.n x.c] 43)
    go_upto_region 9 with fail
    clear c5 d0 d1 d2 d3 d4 d5 d6 d7
    replace hO := hO.alloc (.cells #[x.id, x.gr, x.co, x.lo, x.ma, x.wi, x.le, .slice x.A x.n x.c] 43)
    obtain ⟨bx, hbx⟩ := nm_ W.heap.size
    replace hB := hB.trans (hal.mono hB.size)
    rw [hbx] at hxb ⊢
    generalize W.alloc (.cells #[x.id, x.gr, x.co, x.lo, x.ma, x.wi, x.le, .slice x.A x.n x.c] 43) = W2 at *
    clear hal hbx
    have hs := HS.out.below hB HS.out.lt
    obtain ⟨c0, c1, c2, c3, c4, c5, c6, c7, c8⟩ := hs.all9
    have z3 := hxb.cell_ 3 (v := x.lo) rfl
    go_wp2_with fail
    refine (lot_any v r _ x.lo W2 (HA.out.below hB) HLN.out.2.2.2.1 _ rfl).mono ?_
    rintro e W3 ⟨⟨g0, rfl, hgg⟩, hb3⟩
    have HGG := hide hgg
    clear hgg
    clear c0 c1 c2 c3 c4 c5 c6 c7 c8
    clear z3 hs
    replace hO := hO.below hb3
    replace hB := hB.trans (hb3.mono hB.size)
    replace hxb := hxb.below hb3 hxb.lt
    clear hb3
    have hgb := Blk.new W3 43 #[g0.id, g0.gr, g0.co, g0.lo, g0.ma, g0.wi, g0.le, .slice g0.A g0.n g0.c]
    have hal := (Below.refl W3.heap.size W3).alloc (Nat.le_refl _) (.cells #[g0.id, g0.gr, g0.co, g0.lo, g0.ma, g0.wi, g0.le, .slice g0.A g0.n g0.c] 43)
    go_upto_region 10 with fail
    replace hO := hO.alloc (.cells #[g0.id, g0.gr, g0.co, g0.lo, g0.ma, g0.wi, g0.le, .slice g0.A g0.n g0.c] 43)
    obtain ⟨bg, hbg⟩ := nm_ W3.heap.size
    replace hB := hB.trans (hal.mono hB.size)
    replace hxb := hxb.below hal hxb.lt
    rw [hbg] at hgb ⊢
    generalize W3.alloc (.cells #[g0.id, g0.gr, g0.co, g0.lo, g0.ma, g0.wi, g0.le, .slice g0.A g0.n g0.c] 43) = W4 at *
    clear hal hbg
    have u0 := hgb.cell_ 0 (v := g0.id) rfl
    have z0 := hxb.cell_ 0 (v := x.id) rfl
    clear hgb
    by_cases h1 : g0.id = x.id
    case neg =>
     have HT : Hid (lotsH r s n day (i + 1) = lotsH r s n day i) := by
      refine lotsH_no HX.out ?_
      unfold pickH
      rw [← HGG.out, decide_eq_false h1]; rfl
     go_wp2_with fail
     clear u0 z0 h1 hxb
     go_roundw
     case rel => exact ⟨i + 1, by go_num, by omega, by rw [HT.out]; exact hO, hB⟩
     case measure => simp [intOf]; omega
    have HPK : Hid (pickH r s n day x = (allR s n x.lo day n.count.toNat).isSome) := by
     show _ = _
     unfold pickH
     rw [← HGG.out, decide_eq_true h1, Bool.true_and]
    have hs := HS.out.below hB HS.out.lt
    have hn := HNB.out.below hB HNB.out.lt
    obtain ⟨c0, c1, c2, c3, c4, c5, c6, c7, c8⟩ := hs.all9
    obtain ⟨y0, y1, y2, y3, y4⟩ := hn.all5
    have z3 := hxb.cell_ 3 (v := x.lo) rfl
    have HAW := hide (HA.out.below hB)
    have HPW : Hid (∀ k, PB P w.heap.size Wb.heap.size k → k < W4.heap.size) := fun k hk => Nat.lt_of_lt_of_le (HP1.out k hk) hB.size
    clear hs hn
    cases hb : (allR s n x.lo day n.count.toNat).isSome with
    | false =>
     have HT : Hid (lotsH r s n day (i + 1) = lotsH r s n day i) := lotsH_no HX.out (by rw [HPK.out, hb])
     have HAB := hide hb
     clear hb
     go_wp2_with fail
     refine (rcutAll_ok v r s _ n x.lo day W4 HAW.out HR.out HI.out HRM.out HN.out HD.out HPW.out HAB.out).mono ?_
     rintro e W5 ⟨⟨v2, A2, m2, k2, rfl⟩, hb5⟩
     clear c0 c1 c2 c3 c4 c5 c6 c7 c8
     clear y0 y1 y2 y3 y4 z3 z0 u0 hxb
     replace hO := hO.below hb5
     replace hB := hB.trans (hb5.mono hB.size)
     have hal := (Below.refl W5.heap.size W5).alloc (Nat.le_refl _) (.cells ↑v2 38)
     go_upto_region 12 with fail
     replace hO := hO.alloc (.cells ↑v2 38)
     replace hB := hB.trans (hal.mono hB.size)
     generalize W5.alloc (.cells ↑v2 38) = W6 at *
     clear hal hb5 h1
     go_wp2_with fail
     go_roundw
     case rel => exact ⟨i + 1, by go_num, by omega, by rw [HT.out]; exact hO, hB⟩
     case measure => simp [intOf]; omega
    | true =>
     have HSS : Hid (sortK keyH (lotsH r s n day (i + 1)) = insK keyH x (sortK keyH (lotsH r s n day i))) := by show _ = _; rw [lotsH_yes HX.out (by rw [HPK.out, hb]), sortK_snoc]
     have HXB := hide (pickH_bd HR.out HI.out (List.mem_of_getElem? HX.out) (by rw [HPK.out, hb]))
     have HSB : Hid (∀ u ∈ sortK keyH (lotsH r s n day i), 1 ≤ u.lo ∧ u.lo ≤ 1000000000) := fun u hu => lotsH_bd HR.out HI.out u ((sortK_perm keyH _).subset hu)
     have HASC := hide (sortK_asc keyH (lotsH r s n day i))
     have hSl : (sortK keyH (lotsH r s n day i)).length ≤ 1000000 := by rw [sortK_len]; exact Nat.le_trans (lotsH_len _) (by omega)
     have HAB := hide hb
     generalize sortK keyH (lotsH r s n day i) = S at *
     clear hb
     go_wp2_with fail
     refine (rcutAll_ok v r s _ n x.lo day W4 HAW.out HR.out HI.out HRM.out HN.out HD.out HPW.out HAB.out).mono ?_
     rintro e W5 ⟨⟨v2, A2, m2, k2, rfl⟩, hb5⟩
     clear c0 c1 c2 c3 c4 c5 c6 c7 c8
     clear y0 y1 y2 y3 y4 z3 z0 u0
     replace hO := hO.below hb5
     replace hxb := hxb.below hb5 hxb.lt
     replace hB := hB.trans (hb5.mono hB.size)
     have hal := (Below.refl W5.heap.size W5).alloc (Nat.le_refl _) (.cells ↑v2 38)
     go_upto_region 12 with fail
     replace hO := hO.alloc (.cells ↑v2 38)
     replace hB := hB.trans (hal.mono hB.size)
     replace hxb := hxb.below hal hxb.lt
     generalize W5.alloc (.cells ↑v2 38) = W6 at *
     clear hal hb5 h1 HAW HPW HAB
     obtain ⟨z0, z1, z2, z3, z4, z5, z6, z7⟩ := hxb.all8
     clear hxb
     have hsz := hB.size
     go_upto_region 14 with (at_builtin; refine wpList_app_own (base := W1.heap.size) (f := RH.enc) (ys := [x]) _ _ rfl rfl et_roll (hO.alloc _) rfl rfl ((Blk.new W6 43 #[x.id, x.gr, x.co, x.lo, x.ma, x.wi, x.le, .slice x.A x.n x.c]).slc1 rfl) rfl rh_len rh_one (by simp <;> omega) (by simp <;> omega) ?_; intro v8 W8 hO8 hb8 hg8)
     have hal := (Below.refl W6.heap.size W6).alloc (Nat.le_refl _) (.cells #[x.id, x.gr, x.co, x.lo, x.ma, x.wi, x.le, .slice x.A x.n x.c] 43)
     replace hB := (hB.trans (hal.mono hB.size)).trans hb8
     obtain ⟨g, c8, hv8, _, _⟩ := hO8.at_ (by simp)
     rw [List.length_append] at hv8
     subst hv8
     obtain ⟨m, hm⟩ := nm_ S.length
     have HMS := hide hm
     have hO9 : Own W8 W1.heap.size 43 8 RH.enc (.slice (some ⟨g, 0, none⟩) (m + 1) c8) (bubG S m x) := by rw [← hm, bubG_all]; exact hO8
     have HDR : Hid (∀ u ∈ S.drop m, keyH x < keyH u) := fun u hu => by rw [← hm, List.drop_length] at hu; cases hu
     rw [show S.length + [x].length = m + 1 by rw [hm]; rfl]
     rw [hm] at hSl
     clear hO hO8 hal hb8 hg8 z0 z1 z2 z3 z4 z5 z6 z7 hsz hm
     have e3 : IntKind.i64.wrap (m : Int) = (m : Int) := IntWalk.i64_in _ (by omega)
     go_wp2_with fail
     go_loopw [17] (fun y W' => ∃ (p : Nat), y = .int .i64 p ∧ p ≤ m ∧ Own W' W1.heap.size 43 8 RH.enc (.slice (some ⟨g, 0, none⟩) (m + 1) c8) (bubG S p x) ∧ Hid (∀ u ∈ S.drop p, keyH x < keyH u) ∧ Below W1.heap.size W1 W') (fun y _ => (intOf y).toNat)
     case atStart => exact ⟨m, by go_num, Nat.le_refl _, hO9, HDR, hB⟩
     case round =>
      clear hO9 HDR hB
      obtain ⟨W, rfl⟩ := is_ wr
      obtain ⟨p, rfl, hp, hO, HD, hB⟩ := hrel
      have HPN : Hid (p ≤ S.length) := by show _ ≤ _; rw [HMS.out]; exact hp
      by_cases hp0 : p = 0
      ·subst hp0
       go_wp2_with fail
       refine wp_region_q (by kernel_rfl) (by kernel_rfl) ?_
       dsimp only
       repeat (go_big_quiet_step ((fail)))
       refine wpQuiet_nil ?_
       rintro W ⟨⟨_, hb⟩, rfl⟩
       try dsimp only at hb ⊢
       replace hO := hO.below hb
       replace hB := Below.trans hB (Below.mono hb (Below.size hB))
       clear hb
       go_wp2_with fail
       have HIB : Hid (insK keyH x S = bubG S 0 x) := insG_bub HASC.out HPN.out (fun q x h => by omega) HD.out
       have hO9 : Own W W1.heap.size 43 8 RH.enc (.slice (some ⟨g, 0, none⟩) (m + 1) c8) (sortK keyH (lotsH r s n day (i + 1))) := by rw [HSS.out, HIB.out]; exact hO
       clear hO
       go_roundw
       case rel => exact ⟨i + 1, by go_num, by omega, hO9, hB⟩
       case measure => simp [intOf]; omega
      ·obtain ⟨q, rfl⟩ : ∃ q, p = q + 1 := ⟨p - 1, by omega⟩
       clear hp0
       have hqS : q < S.length := by have := HPN.out; omega
       have HQS := hide hqS
       obtain ⟨y, hy⟩ : ∃ y, S[q]? = some y := ⟨_, List.getElem?_eq_getElem hqS⟩
       have HY := hide hy
       clear hy hqS
       obtain ⟨q1, hq1⟩ : ∃ q1, q1 = q + 1 := ⟨_, rfl⟩
       have HQ1 := hide hq1
       have i2 : (q : Int) + 1 < (m : Int) + 1 := by omega
       have i3 : (q : Int) < (m : Int) + 1 := by omega
       have i4 : (0 : Int) ≤ (q : Int) + 1 := by omega
       have i5 : (0 : Int) < (q : Int) + 1 := by omega
       have e4 : IntKind.i64.wrap (q : Int) = (q : Int) := IntWalk.i64_in _ (by omega)
       have t1 : ((q : Int) + 1).toNat = q1 := by omega
       rw [← hq1] at hO HD HPN
       clear hq1
       obtain ⟨b, js9, e9, hge, hG⟩ := own_blkF hO (by intro e; have := congrArg List.length e; rw [bubG_len HPN.out] at this; simp at this)
       injection e9 with e9
       injection e9 with e9
       subst e9
       have hbx9 := bubG_at (a := x) HPN.out
       have hby9 := bubG_prev (a := x) HY.out
       rw [← HQ1.out] at hby9
       have x3 : W.cell? ⟨g, q1 * 8 + 3, none⟩ = some (.int .i64 x.lo) := hG.cell_ (q1 * 8 + 3) (blkF_get (f := RH.enc) (n := 8) rh_len hbx9 (j := 3) rfl)
       have x4 : W.cell? ⟨g, q1 * 8 + 4, none⟩ = some (.int .i64 x.ma) := hG.cell_ (q1 * 8 + 4) (blkF_get (f := RH.enc) (n := 8) rh_len hbx9 (j := 4) rfl)
       have y3 : W.cell? ⟨g, q * 8 + 3, none⟩ = some (.int .i64 y.lo) := hG.cell_ (q * 8 + 3) (blkF_get (f := RH.enc) (n := 8) rh_len hby9 (j := 3) rfl)
       have y4 : W.cell? ⟨g, q * 8 + 4, none⟩ = some (.int .i64 y.ma) := hG.cell_ (q * 8 + 4) (blkF_get (f := RH.enc) (n := 8) rh_len hby9 (j := 4) rfl)
       clear hbx9 hby9 hG hge js9
       by_cases k1 : x.ma < y.ma
       case' pos =>
        go_wp2_with fail
        refine wp_region_q (by kernel_rfl) (by kernel_rfl) ?_
        dsimp only
        obtain ⟨y_x3, y_x4⟩ := Since.c2 x3 x4
        obtain ⟨y_y3, y_y4⟩ := Since.c2 y3 y4
        repeat (go_big_quiet_step ((fail)))
        refine wpQuiet_nil ?_
        rintro W ⟨⟨_, hb⟩, rfl⟩
        try dsimp only at hb ⊢
        replace x3 := sat y_x3 hb
        replace x4 := sat y_x4 hb
        replace y3 := sat y_y3 hb
        replace y4 := sat y_y4 hb
        clear y_x3 y_x4 y_y3 y_y4
        replace hO := hO.below hb
        replace hB := Below.trans hB (Below.mono hb (Below.size hB))
        clear hb
        go_wp2_with fail
       case' neg =>
        have kd : decide (x.ma < y.ma) = false := by simpa using k1
        by_cases k2 : x.ma = y.ma
        case neg =>
         have kb : (x.ma == y.ma) = false := by simpa using k2
         go_wp2_with fail
         refine wp_region_q (by kernel_rfl) (by kernel_rfl) ?_
         dsimp only
         obtain ⟨y_x3, y_x4⟩ := Since.c2 x3 x4
         obtain ⟨y_y3, y_y4⟩ := Since.c2 y3 y4
         repeat (go_big_quiet_step ((fail)))
         refine wpQuiet_nil ?_
         rintro W ⟨⟨_, hb⟩, rfl⟩
         try dsimp only at hb ⊢
         replace x3 := sat y_x3 hb
         replace x4 := sat y_x4 hb
         replace y3 := sat y_y3 hb
         replace y4 := sat y_y4 hb
         clear y_x3 y_x4 y_y3 y_y4
         replace hO := hO.below hb
         replace hB := Below.trans hB (Below.mono hb (Below.size hB))
         clear hb
         go_wp2_with fail
         have HIB : Hid (insK keyH x S = bubG S q1 x) := insG_bub HASC.out HPN.out (fun q' u h hu => by (obtain rfl : q' = q := by have := HQ1.out; omega); rw [HY.out] at hu; injection hu with hu; subst hu; have k1 := HXB.out; have k2 := HSB.out y (List.mem_of_getElem? HY.out); unfold keyH; omega) HD.out
         have hO9 : Own W W1.heap.size 43 8 RH.enc (.slice (some ⟨g, 0, none⟩) (m + 1) c8) (sortK keyH (lotsH r s n day (i + 1))) := by rw [HSS.out, HIB.out]; exact hO
         clear hO
         go_roundw
         case rel => exact ⟨i + 1, by go_num, by omega, hO9, hB⟩
         case measure => simp [intOf]; omega
        have K2 := hide k2
        have kb : (x.ma == y.ma) = true := by simpa using k2
        clear k2
        by_cases k3 : x.lo < y.lo
        case neg =>
         go_wp2_with fail
         refine wp_region_q (by kernel_rfl) (by kernel_rfl) ?_
         dsimp only
         obtain ⟨y_x3, y_x4⟩ := Since.c2 x3 x4
         obtain ⟨y_y3, y_y4⟩ := Since.c2 y3 y4
         repeat (go_big_quiet_step ((fail)))
         refine wpQuiet_nil ?_
         rintro W ⟨⟨_, hb⟩, rfl⟩
         try dsimp only at hb ⊢
         replace x3 := sat y_x3 hb
         replace x4 := sat y_x4 hb
         replace y3 := sat y_y3 hb
         replace y4 := sat y_y4 hb
         clear y_x3 y_x4 y_y3 y_y4
         replace hO := hO.below hb
         replace hB := Below.trans hB (Below.mono hb (Below.size hB))
         clear hb
         go_wp2_with fail
         have k2 := K2.out
         clear K2
         have HIB : Hid (insK keyH x S = bubG S q1 x) := insG_bub HASC.out HPN.out (fun q' u h hu => by (obtain rfl : q' = q := by have := HQ1.out; omega); rw [HY.out] at hu; injection hu with hu; subst hu; unfold keyH; omega) HD.out
         have hO9 : Own W W1.heap.size 43 8 RH.enc (.slice (some ⟨g, 0, none⟩) (m + 1) c8) (sortK keyH (lotsH r s n day (i + 1))) := by rw [HSS.out, HIB.out]; exact hO
         clear hO
         go_roundw
         case rel => exact ⟨i + 1, by go_num, by omega, hO9, hB⟩
         case measure => simp [intOf]; omega
        go_wp2_with fail
        refine wp_region_q (by kernel_rfl) (by kernel_rfl) ?_
        dsimp only
        obtain ⟨y_x3, y_x4⟩ := Since.c2 x3 x4
        obtain ⟨y_y3, y_y4⟩ := Since.c2 y3 y4
        repeat (go_big_quiet_step ((fail)))
        refine wpQuiet_nil ?_
        rintro W ⟨⟨_, hb⟩, rfl⟩
        try dsimp only at hb ⊢
        replace x3 := sat y_x3 hb
        replace x4 := sat y_x4 hb
        replace y3 := sat y_y3 hb
        replace y4 := sat y_y4 hb
        clear y_x3 y_x4 y_y3 y_y4
        replace hO := hO.below hb
        replace hB := Below.trans hB (Below.mono hb (Below.size hB))
        clear hb
        go_wp2_with fail
        have k2 := K2.out
        clear K2
       all_goals
        have HD3 : Hid (∀ u ∈ S.drop q, keyH x < keyH u) := fun u hu => by
         have h9 := HD.out u
         have hqS := HQS.out
         rw [List.drop_eq_getElem_cons hqS] at hu
         rcases List.mem_cons.1 hu with rfl | hu
         ·have hy := HY.out
          rw [List.getElem?_eq_getElem hqS] at hy
          injection hy with hy
          rw [hy]
          have k1 := HXB.out
          have k2 := HSB.out y (List.mem_of_getElem? HY.out)
          unfold keyH
          omega
         ·exact h9 (by rw [HQ1.out]; exact hu)
        clear x3 x4 y3 y4
        try clear k3
        try clear kb
        try clear kd
        try clear k2
        clear k1
        obtain ⟨b, js9, e9, hge, hG⟩ := own_blkF hO (by intro e; have := congrArg List.length e; rw [bubG_len HPN.out] at this; simp at this)
        injection e9 with e9
        injection e9 with e9
        subst e9
        have hbx9 := bubG_at (a := x) HPN.out
        have hby9 := bubG_prev (a := x) HY.out
        rw [← HQ1.out] at hby9
        have x0 : W.cell? ⟨g, q1 * 8, none⟩ = some (.int .i64 x.id) := hG.cell_ (q1 * 8) (blkF_get (f := RH.enc) (n := 8) rh_len hbx9 (j := 0) rfl)
        have x1 : W.cell? ⟨g, q1 * 8 + 1, none⟩ = some (.int .i64 x.gr) := hG.cell_ (q1 * 8 + 1) (blkF_get (f := RH.enc) (n := 8) rh_len hbx9 (j := 1) rfl)
        have x2 : W.cell? ⟨g, q1 * 8 + 2, none⟩ = some (.int .i64 x.co) := hG.cell_ (q1 * 8 + 2) (blkF_get (f := RH.enc) (n := 8) rh_len hbx9 (j := 2) rfl)
        have x3 : W.cell? ⟨g, q1 * 8 + 3, none⟩ = some (.int .i64 x.lo) := hG.cell_ (q1 * 8 + 3) (blkF_get (f := RH.enc) (n := 8) rh_len hbx9 (j := 3) rfl)
        have x4 : W.cell? ⟨g, q1 * 8 + 4, none⟩ = some (.int .i64 x.ma) := hG.cell_ (q1 * 8 + 4) (blkF_get (f := RH.enc) (n := 8) rh_len hbx9 (j := 4) rfl)
        have x5 : W.cell? ⟨g, q1 * 8 + 5, none⟩ = some (.int .i64 x.wi) := hG.cell_ (q1 * 8 + 5) (blkF_get (f := RH.enc) (n := 8) rh_len hbx9 (j := 5) rfl)
        have x6 : W.cell? ⟨g, q1 * 8 + 6, none⟩ = some (.int .i64 x.le) := hG.cell_ (q1 * 8 + 6) (blkF_get (f := RH.enc) (n := 8) rh_len hbx9 (j := 6) rfl)
        have x7 : W.cell? ⟨g, q1 * 8 + 7, none⟩ = some (.slice x.A x.n x.c) := hG.cell_ (q1 * 8 + 7) (blkF_get (f := RH.enc) (n := 8) rh_len hbx9 (j := 7) rfl)
        have y0 : W.cell? ⟨g, q * 8, none⟩ = some (.int .i64 y.id) := hG.cell_ (q * 8) (blkF_get (f := RH.enc) (n := 8) rh_len hby9 (j := 0) rfl)
        have y1 : W.cell? ⟨g, q * 8 + 1, none⟩ = some (.int .i64 y.gr) := hG.cell_ (q * 8 + 1) (blkF_get (f := RH.enc) (n := 8) rh_len hby9 (j := 1) rfl)
        have y2 : W.cell? ⟨g, q * 8 + 2, none⟩ = some (.int .i64 y.co) := hG.cell_ (q * 8 + 2) (blkF_get (f := RH.enc) (n := 8) rh_len hby9 (j := 2) rfl)
        have y3 : W.cell? ⟨g, q * 8 + 3, none⟩ = some (.int .i64 y.lo) := hG.cell_ (q * 8 + 3) (blkF_get (f := RH.enc) (n := 8) rh_len hby9 (j := 3) rfl)
        have y4 : W.cell? ⟨g, q * 8 + 4, none⟩ = some (.int .i64 y.ma) := hG.cell_ (q * 8 + 4) (blkF_get (f := RH.enc) (n := 8) rh_len hby9 (j := 4) rfl)
        have y5 : W.cell? ⟨g, q * 8 + 5, none⟩ = some (.int .i64 y.wi) := hG.cell_ (q * 8 + 5) (blkF_get (f := RH.enc) (n := 8) rh_len hby9 (j := 5) rfl)
        have y6 : W.cell? ⟨g, q * 8 + 6, none⟩ = some (.int .i64 y.le) := hG.cell_ (q * 8 + 6) (blkF_get (f := RH.enc) (n := 8) rh_len hby9 (j := 6) rfl)
        have y7 : W.cell? ⟨g, q * 8 + 7, none⟩ = some (.slice y.A y.n y.c) := hG.cell_ (q * 8 + 7) (blkF_get (f := RH.enc) (n := 8) rh_len hby9 (j := 7) rfl)
        have hsz9 : q1 * 8 + 7 < ((bubG S q1 x).flatMap RH.enc ++ js9).toArray.size := (Array.getElem?_eq_some_iff.1 (blkF_get (f := RH.enc) (n := 8) rh_len (js := js9) hbx9 (j := 7) rfl)).1
        have hsq9 : q * 8 + 7 < ((bubG S q1 x).flatMap RH.enc ++ js9).toArray.size := (Array.getElem?_eq_some_iff.1 (blkF_get (f := RH.enc) (n := 8) rh_len (js := js9) hby9 (j := 7) rfl)).1
        have f0 := hG.frozen (q1 * 8)
        have G1 := hG.set_ (q1 * 8) (.int .i64 y.id)
        have f1 := G1.frozen (q1 * 8 + 1)
        obtain ⟨_, k1⟩ := G1.hasH (i := q1 * 8 + 1) (by simp only [Array.size_setIfInBounds]; omega)
        have G2 := G1.set_ (q1 * 8 + 1) (.int .i64 y.gr)
        have f2 := G2.frozen (q1 * 8 + 2)
        obtain ⟨_, k2⟩ := G2.hasH (i := q1 * 8 + 2) (by simp only [Array.size_setIfInBounds]; omega)
        have G3 := G2.set_ (q1 * 8 + 2) (.int .i64 y.co)
        have f3 := G3.frozen (q1 * 8 + 3)
        obtain ⟨_, k3⟩ := G3.hasH (i := q1 * 8 + 3) (by simp only [Array.size_setIfInBounds]; omega)
        have G4 := G3.set_ (q1 * 8 + 3) (.int .i64 y.lo)
        have f4 := G4.frozen (q1 * 8 + 4)
        obtain ⟨_, k4⟩ := G4.hasH (i := q1 * 8 + 4) (by simp only [Array.size_setIfInBounds]; omega)
        have G5 := G4.set_ (q1 * 8 + 4) (.int .i64 y.ma)
        have f5 := G5.frozen (q1 * 8 + 5)
        obtain ⟨_, k5⟩ := G5.hasH (i := q1 * 8 + 5) (by simp only [Array.size_setIfInBounds]; omega)
        have G6 := G5.set_ (q1 * 8 + 5) (.int .i64 y.wi)
        have f6 := G6.frozen (q1 * 8 + 6)
        obtain ⟨_, k6⟩ := G6.hasH (i := q1 * 8 + 6) (by simp only [Array.size_setIfInBounds]; omega)
        have G7 := G6.set_ (q1 * 8 + 6) (.int .i64 y.le)
        have f7 := G7.frozen (q1 * 8 + 7)
        obtain ⟨_, k7⟩ := G7.hasH (i := q1 * 8 + 7) (by simp only [Array.size_setIfInBounds]; omega)
        have G8 := G7.set_ (q1 * 8 + 7) (.slice y.A y.n y.c)
        have f8 := G8.frozen (q * 8)
        obtain ⟨_, k8⟩ := G8.hasH (i := q * 8) (by simp only [Array.size_setIfInBounds]; omega)
        have G9 := G8.set_ (q * 8) (.int .i64 x.id)
        have f9 := G9.frozen (q * 8 + 1)
        obtain ⟨_, k9⟩ := G9.hasH (i := q * 8 + 1) (by simp only [Array.size_setIfInBounds]; omega)
        have G10 := G9.set_ (q * 8 + 1) (.int .i64 x.gr)
        have f10 := G10.frozen (q * 8 + 2)
        obtain ⟨_, k10⟩ := G10.hasH (i := q * 8 + 2) (by simp only [Array.size_setIfInBounds]; omega)
        have G11 := G10.set_ (q * 8 + 2) (.int .i64 x.co)
        have f11 := G11.frozen (q * 8 + 3)
        obtain ⟨_, k11⟩ := G11.hasH (i := q * 8 + 3) (by simp only [Array.size_setIfInBounds]; omega)
        have G12 := G11.set_ (q * 8 + 3) (.int .i64 x.lo)
        have f12 := G12.frozen (q * 8 + 4)
        obtain ⟨_, k12⟩ := G12.hasH (i := q * 8 + 4) (by simp only [Array.size_setIfInBounds]; omega)
        have G13 := G12.set_ (q * 8 + 4) (.int .i64 x.ma)
        have f13 := G13.frozen (q * 8 + 5)
        obtain ⟨_, k13⟩ := G13.hasH (i := q * 8 + 5) (by simp only [Array.size_setIfInBounds]; omega)
        have G14 := G13.set_ (q * 8 + 5) (.int .i64 x.wi)
        have f14 := G14.frozen (q * 8 + 6)
        obtain ⟨_, k14⟩ := G14.hasH (i := q * 8 + 6) (by simp only [Array.size_setIfInBounds]; omega)
        have G15 := G14.set_ (q * 8 + 6) (.int .i64 x.le)
        have f15 := G15.frozen (q * 8 + 7)
        obtain ⟨_, k15⟩ := G15.hasH (i := q * 8 + 7) (by simp only [Array.size_setIfInBounds]; omega)
        have G16 := G15.set_ (q * 8 + 7) (.slice x.A x.n x.c)
        clear hG G1 G2 G3 G4 G5 G6 G7 G8 G9 G10 G11 G12 G13 G14 G15 G16
        obtain ⟨o1, b1⟩ := put_ownH hO hbx9 y
        have hby8 : ((bubG S q1 x).set q1 y)[q]? = some y := by rw [List.getElem?_set_ne (by have := HQ1.out; omega)]; exact hby9
        obtain ⟨o2, b2⟩ := put_ownH o1 hby8 x
        have o3 := o2.drew
        have hBB := hB.trans ((b1.trans b2).drew)
        have e9 : ((bubG S q1 x).set q1 y).set q x = bubG S q x := by rw [HQ1.out]; exact bubG_step HY.out
        rw [e9] at o3
        clear hO o1 b1 o2 b2 hB hbx9 hby9 hby8 hsz9 hsq9 hge e9 js9
        have mixed : Tryz.prog.follows Departure.mixedOrders = true := by kernel_rfl
        go_wp2_with fail
        go_big_region_o
        all_goals go_wp2
        go_roundw
        case rel => exact ⟨q, by go_num, by omega, o3, HD3, hBB⟩
        case measure => simp [intOf]
   ·obtain rfl : i = v.nr := by omega
    have HTE : Hid ((sortK keyH (lotsH r s n day v.nr)).map (·.lo) = lotsL s n day) := by show _ = _; rw [HH.out.nr]; exact lotsR_is HR.out HI.out HV.out
    have hTl : (sortK keyH (lotsH r s n day v.nr)).length ≤ 1000000 := by rw [sortK_len]; exact Nat.le_trans (lotsH_len _) hnb
    generalize sortK keyH (lotsH r s n day v.nr) = T at *
    obtain ⟨A, c, rfl, hsl⟩ := hO.form rh_len
    obtain ⟨m, hm⟩ := nm_ T.length
    have HTM := hide hm
    have HSL := hide hsl
    have HB0 := hide (HBB.out.trans (hB.mono HBB.out.size))
    rw [hm] at hTl ⊢
    clear hO hsl hm hB
    obtain ⟨Wf, rfl⟩ := is_ W
    go_wp2_with fail
    clear c5 hlt
    go_loopw [18, 19] (fun y z wr => ∃ (j : Nat) (ls : List Int), z = .int .i64 j ∧ j ≤ m ∧ ls.length ≤ j ∧ Hid (ls = (T.take j).map (·.lo)) ∧ Own wr Wf.heap.size 3 1 intEnc y ls ∧ Below Wf.heap.size Wf wr) (fun _ z _ => m - (intOf z).toNat)
    case atStart => exact ⟨0, [], rfl, Nat.zero_le _, Nat.le_refl _, rfl, Own.nil_, Below.refl _ _⟩
    case round =>
     obtain ⟨W, rfl⟩ := is_ wr
     obtain ⟨j, ls, rfl, hj, hll, HLS, hO, hB⟩ := hrel
     obtain ⟨lv, rfl⟩ := is_ u18
     by_cases hlt : j < m
     ·obtain ⟨x, hx⟩ : ∃ x, T[j]? = some x := ⟨_, List.getElem?_eq_getElem (by rw [HTM.out]; exact hlt)⟩
      obtain ⟨b1, o1, hA1, _, d0, d1, d2, d3, d4, d5, d6, d7⟩ := rh_at (Slc.on HSL.out hB) hx
      have hii : (j : Int) < (m : Int) := by omega
      have ei : IntKind.i64.wrap ((j : Int) + 1) = ((j + 1 : Nat) : Int) := by rw [IntWalk.i64_in _ (by omega)]; push_cast; rfl
      have HT : Hid (ls ++ [x.lo] = (T.take (j + 1)).map (·.lo)) := by show _ = _; rw [HLS.out, List.take_add_one, hx, Option.toList_some, List.map_append]; rfl
      have hsz := hB.size
      subst hA1
      clear hx d0 d1 d2 d4 d5 d6 d7
      go_wp2_with (at_builtin; refine wpList_app_own (base := Wf.heap.size) (f := intEnc) (ys := [x.lo]) _ _ rfl rfl et_ints (hO.alloc _) rfl rfl ((Blk.new W 3 #[x.lo]).slc1 rfl) rfl (fun _ => rfl) intEnc_one (by simp <;> omega) (by simp <;> omega) ?_; intro v6 W6 hO6 hb6 hg6)
      have hal := (Below.refl W.heap.size W).alloc (Nat.le_refl _) (.cells #[x.lo] 3)
      replace hB := (hB.trans (hal.mono hB.size)).trans hb6
      clear hO hal hb6 hg6 hsz d3
      go_roundw
      case rel => exact ⟨j + 1, ls ++ [x.lo], by go_num, by omega, by simp; omega, HT, hO6, hB⟩
      case measure => simp [intOf]; omega
     ·obtain rfl : j = m := by omega
      have HLE : Hid (ls = lotsL s n day) := by show _ = _; rw [HLS.out, List.take_of_length_le (by rw [HTM.out]; exact Nat.le_refl _), HTE.out]
      obtain ⟨A2, k2, rfl, hsl2⟩ := hO.form (fun _ => rfl)
      have HAD : Hid (∀ ad, A2 = some ad → w.heap.size ≤ ad.block) := fun ad ha => Nat.le_trans HB0.out.size (own_ad hO ad ha)
      clear hO
      go_wp2_with fail
      go_ret2
      exact ⟨A2, k2, by rw [← HLE.out, HE.out]; rfl, by rw [← HLE.out]; exact hsl2, HB0.out.trans (hB.mono HB0.out.size), HAD.out⟩
end Go.Proofs.YtehlbomkldnalaaGreat

/- The reference's Take: the walk. -/
namespace Go.Proofs.YtehlbomkldnalaaGreat
open Go Go.RowKit
def TakeRPost (P : Nat → Prop) (s : SS) (n : Need) (day : Int) (w : World) (e : Ending) (w' : World) : Prop :=
 ∃ (v2 : RV) (r2 : RS) (A : Option Addr) (c : Nat), e = .returned (.tuple #[.agg ↑v2, .slice A (takeL s n day).length c, .int .i64 (takeE s n day)]) ∧ Slc Piece.enc 8 w' w'.heap.size A (takeL s n day) ∧ RAt w' P v2 r2 ∧ Rel r2 (takeS s n day) ∧ Below w.heap.size w w'
theorem take_head {s : SS} {n : Need} {day a : Int} {t : List Int} (hv : needB n day = true) (hl : lotsL s n day = a :: t) : ∃ q, allR s n a day n.count.toNat = some q ∧ takeS s n day = q.1 ∧ takeL s n day = q.2 ∧ takeE s n day = 0 := by
 unfold lotsL at hl
 rw [hv] at hl
 obtain ⟨h1, q, h2, h3⟩ := from_some hl
 obtain ⟨kn, k1, k2, k3⟩ := lot_ok h1
 have hF : takeF s n day = some q := h2
 refine ⟨q, ?_, ?_, ?_, ?_⟩
 ·unfold allR
  have : lotOk s n a = true := by unfold lotOk; rw [k1]; simp [k2, k3]
  rw [if_pos this]; exact h3
 ·unfold takeS; rw [hv, hF]; rfl
 ·unfold takeL; rw [hv, hF]; rfl
 ·unfold takeE; rw [hv, hF]; rfl
def TkR (P : Nat → Prop) (B : Nat) (q : SS × List Piece) (x y z : Value) (w : World) : Prop :=
 ∃ (v2 : RV) (r2 : RS) (A : Option Addr) (c : Nat), x = .agg ↑v2 ∧ y = .slice A q.2.length c ∧ z = .bool true ∧ Slc Piece.enc 8 w w.heap.size A q.2 ∧ (∀ ad, A = some ad → B ≤ ad.block) ∧ RAt w P v2 r2 ∧ Rel r2 q.1
theorem TkR.chg {P : Nat → Prop} {B g : Nat} {q : SS × List Piece} {x y z : Value} {w w' : World} (hg : P g) (hgB : g < B) (hc : Chg (fun k => k = g) w w') (h : TkR P B q x y z w) : TkR P B q x y z w' := by
 obtain ⟨v2, r2, A, c, h1, h2, h3, h4, h7, h5, h6⟩ := h
 refine ⟨v2, r2, A, c, h1, h2, h3, h4.chgO hc (fun _ ad ha hk => ?_), h7, h5.chg (hc.mono fun k _ hk => by subst hk; exact hg), h6⟩
 have := h7 ad ha
 have hk2 : ad.block = g := hk
 omega
set_option maxRecDepth 100000 in
set_option maxHeartbeats 4000000 in
theorem rtake_any (v : RV) (r : RS) (s : SS) (P : Nat → Prop) (n : Need) (day : Int) (w : World) (h : RAt w P v r) (hR : Rel r s) (hI : Inv s) (hF : Room s 50) (hP : ∀ k, P k → k < w.heap.size) :
  Calls Tryz.prog 22 #[.agg ↑v, .agg ↑n, day] w (TakeRPost P s n day w) := by
 have HR := hide hR
 have HI := hide hI
 have HF := hide hF
 have HPP := hide hP
 obtain ⟨hs, hn, hr, hal, hsz⟩ := box3 w 38 45 38 ↑v ↑n ↑zrA
 go_enter Tryz.func22, Tryz.ntmps22
 go_upto_region 1 with fail
 generalize ((w.alloc (.cells ↑v 38)).alloc (.cells ↑n 45)).alloc (.cells ↑zrA 38) = Wb at *
 have HH := hide (h.box hal)
 have HP2 : Hid (∀ k, PB P w.heap.size Wb.heap.size k → k < Wb.heap.size) := PB.lt hP hal.size
 have HSZ := hide hsz
 clear hR hI hF h hP hsz
 obtain ⟨c0, c1, c2, c3, c4, c5, c6, c7, c8⟩ := hs.all9
 obtain ⟨y0, y1, y2, y3, y4⟩ := hn.all5
 go_wp2_with fail
 refine (rlots_any v r s _ n day Wb HH.out HR.out HI.out HF.out HP2.out).mono ?_
 rintro e W ⟨A, c, rfl, hsl, hb1, hfrl⟩
 have HFRL := hide hfrl
 clear hfrl
 clear c0 c1 c2 c3 c4 c5 c6 c7 c8
 clear y0 y1 y2 y3 y4
 replace hs := hs.below hb1 hs.lt
 replace hn := hn.below hb1 hn.lt
 replace hr := hr.below hb1 hr.lt
 have hBB := hal.trans (hb1.mono hal.size)
 have HA := hide (HH.out.below hb1)
 have HP3 : Hid (∀ k, PB P w.heap.size Wb.heap.size k → k < W.heap.size) := fun k hk => Nat.lt_of_lt_of_le (HP2.out k hk) hb1.size
 have HW2 : Hid (w.heap.size + 3 ≤ W.heap.size) := by show _ ≤ _; have := hb1.size; have := HSZ.out; omega
 clear hal hb1
 obtain ⟨c0, c1, c2, c3, c4, c5, c6, c7, c8⟩ := hs.all9
 cases hv : needB n day with
 | false =>
  have HT := hide (take_bad (s := s) hv)
  have HTS : Hid (takeS s n day = s) := by show _ = _; unfold takeS; rw [hv]; rfl
  rw [HT.out.2.2.2]
  clear hsl hn hv hs
  obtain ⟨v2, rfl⟩ := is_ v
  go_wp2_with (refine wpList_store_blk rfl 38 _ _ rfl ↑v2 hr rfl rfl (by kernel_rfl) rfl (by simp [Value.oneCell']) ?_; intro W9 hr9 hc9; obtain ⟨q0, q1, q2, q3, q4, q5, q6, q7, q8⟩ := hr9.all9)
  refine bodyPost_ret (v := .tuple #[.agg ↑v2, .slice none 0 0, .int .i64 2]) (by simp [results, Tryz.results22, go_sem, q0, q1, q2, q3, q4, q5, q6, q7, q8]) rfl ?_
  refine ⟨v2, r, none, 0, by rw [HT.out.1, HT.out.2.1]; rfl, by rw [HT.out.2.1]; exact Slc.nil_, RAt.unbox HA.out hc9 ⟨by omega, by have := HSZ.out; omega⟩, by rw [HTS.out]; exact HR.out, hBB.trans (hc9.below1 hBB.size (by omega))⟩
 | true =>
  have hle : lotsE n day = 0 := by unfold lotsE; rw [hv]; rfl
  rw [hle]
  obtain ⟨hno, hdo⟩ := needB_ok hv
  have HN := hide hno
  have HD := hide hdo
  have HRM : Hid (Room s n.count.toNat) := HF.out.less (by have := hno.c; omega)
  clear hle hno hdo
  cases hl : lotsL s n day with
  | nil =>
   have HT := hide (take_short hv hl)
   have HTS : Hid (takeS s n day = s) := by
    show _ = _
    unfold takeS
    unfold lotsL at hl
    rw [hv] at hl
    have hFn : takeF s n day = none := from_none hl
    rw [hv, hFn]; rfl
   clear hsl hn hv hs hl
   obtain ⟨v2, rfl⟩ := is_ v
   go_wp2_with (refine wpList_store_blk rfl 38 _ _ rfl ↑v2 hr rfl rfl (by kernel_rfl) rfl (by simp [Value.oneCell']) ?_; intro W9 hr9 hc9; obtain ⟨q0, q1, q2, q3, q4, q5, q6, q7, q8⟩ := hr9.all9)
   refine bodyPost_ret (v := .tuple #[.agg ↑v2, .slice none 0 0, .int .i64 24]) (by simp [results, Tryz.results22, go_sem, q0, q1, q2, q3, q4, q5, q6, q7, q8]) rfl ?_
   refine ⟨v2, r, none, 0, by rw [HT.out.1, HT.out.2]; rfl, by rw [HT.out.2]; exact Slc.nil_, RAt.unbox HA.out hc9 ⟨by omega, by have := HSZ.out; omega⟩, by rw [HTS.out]; exact HR.out, hBB.trans (hc9.below1 hBB.size (by omega))⟩
  | cons a t =>
   obtain ⟨q, hq, hT⟩ := take_head hv hl
   have HQ := hide hq
   have HT := hide hT
   rw [hl] at hsl
   obtain ⟨b1, o1, hA1, hb1lt, hcell⟩ := hsl 0 a rfl
   have d0 : W.cell? ⟨b1, o1, none⟩ = some (.int .i64 a) := by simpa using hcell 0 (.int .i64 a) rfl
   subst hA1
   have HLB : Hid (Wb.heap.size ≤ b1 ∧ b1 < W.heap.size) := ⟨HFRL.out ⟨b1, o1, none⟩ rfl, hb1lt⟩
   have hS := hide hs
   have HNN := hide hn
   have HRR := hide hr
   have HBB := hide hBB
   have D0 := hide d0
   obtain ⟨m, hm⟩ := nm_ t.length
   rw [List.length_cons, hm]
   have hz : (((m + 1 : Nat) : Int) == 0) = false := by simp; omega
   clear hq hT hsl hcell hm hv hl
   go_upto_region 6 with fail
   have HSS := hS
   clear d0 hs hn hr hBB hz hS
   clear c0 c1 c2 c3 c4 c5 c6 c7 c8
   have hld : ∀ w9 : World, Blk w9 w.heap.size 38 ↑v → ∀ ev : Operand → Value, ev (.tmp 3) = .pointer (some ⟨w.heap.size, 0, none⟩) → (execOp ev ⟨some 29, .load 38 (.tmp 3), 38, "ref.go:336", #[], none⟩).run Tryz.prog w9 = .ok (.value (.agg ↑v)) w9 := fun w9 hb9 ev hev => by
    obtain ⟨c0, c1, c2, c3, c4, c5, c6, c7, c8⟩ := hb9.all9
    simp [execOp, hev, go_sem, c0, c1, c2, c3, c4, c5, c6, c7, c8]
   refine wp_region_take (args := #[.agg #[.int .i64 v.mw, .int .i64 v.ml, .int .i64 v.l0, .int .i64 v.l1, .int .i64 v.l2, .slice v.Ar v.nr v.cr, .slice v.Ai v.ni v.ci, .slice v.Ap v.np v.cp, .slice v.Al v.nl v.cl], a, .agg ↑n, day]) (tg := 38) (old := #[.int .i64 v.mw, .int .i64 v.ml, .int .i64 v.l0, .int .i64 v.l1, .int .i64 v.l2, .slice v.Ar v.nr v.cr, .slice v.Ai v.ni v.ci, .slice v.Ap v.np v.cp, .slice v.Al v.nl v.cl]) (g := w.heap.size) (TkR (PB P w.heap.size Wb.heap.size) W.heap.size q) (by kernel_rfl) (by kernel_rfl) (by kernel_rfl) (by kernel_rfl) (fun u v t w0 w' hc h => h.chg (.inr ⟨Nat.le_refl _, by have := HSZ.out; omega⟩) (by have := HW2.out; omega) hc) (fun u v t w0 ⟨v2, _, _, _, h1, _⟩ => ⟨_, h1, rfl, by simp [Value.oneCell']⟩) rfl rfl rfl rfl rfl rfl rfl rfl rfl rfl rfl rfl rfl rfl rfl rfl rfl rfl rfl rfl rfl rfl rfl rfl rfl rfl rfl rfl rfl rfl rfl rfl rfl rfl rfl rfl rfl (by simp) rfl HSS.out (by kernel_rfl) hld (fun _ _ => rfl) ?_
   apply Exists.intro
   refine ⟨fun W1 hc => ?_, ?_⟩
   ·have hx2 := HNN.out.chg1 hc (by omega)
    obtain ⟨y_n0, y_n1, y_n2, y_n3, y_n4⟩ := hx2.sin5
    have hd1 : W1.cell? ⟨b1, o1, none⟩ = some (.int .i64 a) := (World.cell?_of_block (hc.block b1 HLB.out.2 (by have := HLB.out.1; have := HSZ.out; omega))).trans D0.out
    have y_d0 := Since.cell hd1
    clear hx2 hd1
    dsimp only [pick, List.filterMap, List.getElem?_cons_succ, List.getElem?_cons_zero]
    repeat (go_big_quiet_step (fail))
    exact wpQuiet_nil rfl
   refine ⟨by simp, rfl, by simp [Act.eval, Act.put], fun w1 hb1 => ?_, fun cs u2 u3 w8 hc8 hx hs8 => ?_⟩
   ·refine (rcutAll_any v r s _ n a day w1 (HA.out.below hb1) HR.out HI.out HRM.out HN.out HD.out (fun k hk => Nat.lt_of_lt_of_le (HP3.out k hk) hb1.size)).mono ?_
    intro e w3 hp
    unfold AllRPost at hp
    rw [HQ.out] at hp
    obtain ⟨v2, r2, A2, c2, h1, h2, h3, h4, h5, h6⟩ := hp
    exact ⟨_, _, _, h1, ⟨v2, r2, A2, c2, rfl, rfl, rfl, h2, fun ad ha => Nat.le_trans hb1.size (h6 ad ha), h3, h4⟩, h5⟩
   obtain ⟨v2, r2, A2, k2, hcs, rfl, rfl, hsl, hfr, hA2, hR2⟩ := hx
   injection hcs with hcs
   subst hcs
   have hr := HRR.out.chg1 hc8 (by omega)
   have hBB := HBB.out.trans (hc8.below1 HBB.out.size (by omega))
   have HA3 := hide hA2
   have HR2 := hide hR2
   have HSL := hide hsl
   have HFR := hide hfr
   have hsz8 := hc8.size
   clear hc8 hA2 hR2 hsl hfr
   dsimp only [Act.put]
   simp only [List.setIfInBounds_toArray, List.set_cons_succ, List.set_cons_zero]
   obtain ⟨c0, c1, c2, c3, c4, c5, c6, c7, c8⟩ := hs8.all9
   clear hs8
   go_wp2_with (refine wpList_store_blk rfl 38 _ _ rfl ↑v2 hr rfl rfl (by kernel_rfl) rfl (by simp [Value.oneCell']) ?_; intro W9 hr9 hc9; obtain ⟨q0, q1, q2, q3, q4, q5, q6, q7, q8⟩ := hr9.all9)
   refine bodyPost_ret (v := .tuple #[.agg ↑v2, .slice A2 q.2.length k2, .int .i64 0]) (by simp [results, Tryz.results22, go_sem, q0, q1, q2, q3, q4, q5, q6, q7, q8]) rfl ?_
   have hA9 := RAt.unbox HA3.out hc9 ⟨by omega, by have := HSZ.out; omega⟩
   have hsl9 := HSL.out.chgO hc9 (fun _ ad ha hk => by have := HFR.out ad ha; have hk2 : ad.block = w.heap.size + 2 := hk; have := HW2.out; omega)
   exact ⟨v2, r2, A2, k2, by rw [HT.out.2.1, HT.out.2.2], by rw [HT.out.2.1]; exact hsl9, hA9, by rw [HT.out.1]; exact HR2.out, hBB.trans (hc9.below1 hBB.size (by omega))⟩
end Go.Proofs.YtehlbomkldnalaaGreat

/- A call of both stores: what it does, plain. -/
namespace Go.Proofs.YtehlbomkldnalaaGreat
open Go Go.RowKit
noncomputable def callF (s : SS) (x : CallV) (fs : List Pt) : SS := if kd x = 1 then s else doF s x fs
def ClPost (p : Fp) (s' : SS) (P : Nat → Prop) (w : World) (e : Ending) (w' : World) : Prop :=
 ∃ (p' : Fp) (v' : RV) (r' : RS), e = .returned (.tuple #[.agg ↑v', .bool true]) ∧ Stp w p s' w' p' ∧ RAt w' (fun k => P k ∨ p'.has k) v' r' ∧ Rel r' s'
theorem eqI (a : Int) (w : World) : (binOp .eql 29 (.int .i64 a) (.int .i64 a)).run Tryz.prog w = .ok (.bool true) w := by
 simp [binOp, go_sem]
theorem Chg.drop_ {S : Nat → Prop} {g : Nat} {w w' : World} (h : Chg (fun k => S k ∨ k = g) w w') (hg : w.heap.size ≤ g) : Chg S w w' :=
 ⟨h.os, h.tape, h.output, h.size, fun k hk hn => h.block k hk (by rintro (h | h); exact hn h; omega)⟩
end Go.Proofs.YtehlbomkldnalaaGreat

/- A roll that the reference receives: plain. -/
namespace Go.Proofs.YtehlbomkldnalaaGreat
open Go Go.RowKit
def RS.rolled (r : RS) (x : RH) (fs : List Pt) : RS := (({ r with rolls := r.rolls ++ [x] } : RS).withI ⟨x.id, x.id, x.gr, x.co, x.lo, x.ma, x.wi, x.le, fs⟩).linked x.id 0
theorem Inv.fresh {s : SS} (h : Inv s) {id : Int} (hn : look s.parent id = none) : look s.items id = none ∧ look s.pieces id = none := by
 constructor
 ·cases e : look s.items id with
  | none => rfl
  | some x =>
   have h1 := h.it _ _ e
   have := h1.2.p
   rw [h1.1, hn] at this; cases this
 ·cases e : look s.pieces id with
  | none => rfl
  | some x =>
   have h1 := h.pc _ _ e
   have := h1.2.p
   rw [h1.1, hn] at this; cases this
theorem rel_rec {r : RS} {s : SS} (h : Rel r s) (hi : Inv s) {x : RH} {fs : List Pt} (hv : validRoll ⟨x.id, x.gr, x.co, x.lo, x.ma, x.wi, x.le, fs⟩ = true) (hp : look s.parent x.id = none) (hk : kinOk s ⟨x.id, x.gr, x.co, x.lo, x.ma, x.wi, x.le, fs⟩ = true) :
  Rel (r.rolled x fs) (recFn s ⟨x.id, x.gr, x.co, x.lo, x.ma, x.wi, x.le, fs⟩) := by
 obtain ⟨b1, b2, b3, b4, b5, b6, b7, b8, b9⟩ := roll_bd hv
 have hf := hi.fresh hp
 refine ⟨h.ru, h.it.put_new (x := ⟨x.id, x.id, x.gr, x.co, x.lo, x.ma, x.wi, x.le, fs⟩) hf.1, h.pc, fun j => h.links_ hp j, ?_, fun k => ?_, ?_, ?_, ?_, ?_, ?_, ?_⟩
 ·show maxL (r.links ++ [(x.id, 0)]) = imax s.last x.id
  rw [maxL_snoc, h.la]
 ·show (((r.rolls ++ [x]).find? fun h => decide (h.lo = k)).map fun h => (⟨h.gr, h.co, h.ma⟩ : Kin)) = look (put s.lots x.lo ⟨x.gr, x.co, x.ma⟩) k
  have h0 := h.lo k
  unfold RS.lotR at h0
  rw [List.find?_append, look_put]
  by_cases e : k = x.lo
  ·rw [if_pos e]
   subst e
   cases hq : r.rolls.find? fun h => decide (h.lo = x.lo) with
   | some g =>
    rw [hq] at h0
    have h1 : look s.lots x.lo = some ⟨g.gr, g.co, g.ma⟩ := h0.symm
    unfold kinOk at hk
    dsimp only at hk
    rw [h1] at hk
    simp only [Bool.and_eq_true, decide_eq_true_eq] at hk
    rw [Option.some_or, Option.map_some, hk.1.1, hk.1.2, hk.2]
   | none =>
    rw [Option.none_or]
    simp
  ·rw [if_neg e, ← h0]
   have : ([x].find? fun h => decide (h.lo = k)) = none := by simp [Ne.symm e]
   rw [this, Option.or_none]
 ·show ((r.rolls ++ [x]).map fun h => h.wi * h.le).sum = s.received + x.wi * x.le
  rw [List.map_append, List.sum_append, h.re]
  simp
 ·show ((r.rolls ++ [x]).map (·.id)).Nodup
  rw [List.map_append, List.nodup_append]
  refine ⟨h.nd, by simp, fun a ha b hb => ?_⟩
  obtain ⟨g, hg, rfl⟩ := List.mem_map.1 ha
  have h1 := h.il g hg
  simp at hb
  subst hb
  intro he
  rw [he, hp] at h1; cases h1
 ·intro g hg
  show (look (put s.parent x.id 0) g.id).isSome = true
  rw [look_put]
  split
  ·rfl
  ·rename_i hne
   rcases List.mem_append.1 hg with hg | hg
   ·exact h.il g hg
   ·rw [List.mem_singleton.1 hg] at hne; exact absurd rfl hne
 ·intro g hg
  rcases List.mem_append.1 hg with hg | hg
  ·exact h.bd g hg
  ·rw [List.mem_singleton.1 hg]; exact ⟨b6, b7⟩
 ·show (r.links ++ [(x.id, 0)]).length = (put s.parent x.id 0).length
  rw [put_new hp, List.length_append, List.length_append, h.ll]
 ·show (r.rolls ++ [x]).length ≤ (put s.parent x.id 0).length
  rw [put_new hp, List.length_append, List.length_append]
  have := h.rl
  simp; omega
theorem rec_err {s : SS} {q : Roll} {er : Int} (h : recE s q = er) (hne : er ≠ 0) : recS s q = s := by unfold recS; rw [h, if_neg hne]
theorem rec_ok {s : SS} {q : Roll} (h : recE s q = 0) : recS s q = recFn s q := by unfold recS; rw [if_pos h]
theorem kin_is {r : RS} {s : SS} (h : Rel r s) (q : Roll) : kinOk s q = match r.lotR q.lot with
  | none => true
  | some k => decide (k.gr = q.grade) && decide (k.co = q.colour) && decide (k.ma = q.made) := by
 unfold kinOk
 rw [← h.lo q.lot]
 cases r.lotR q.lot <;> rfl
end Go.Proofs.YtehlbomkldnalaaGreat

/- The reference's Receive: the walk. -/
namespace Go.Proofs.YtehlbomkldnalaaGreat
open Go Go.RowKit
theorem vroll_is (id gr co lo ma wi le : Int) (A : Option Addr) (c : Nat) (fs : List Pt) (w : World) (hS : Slc Pt.enc 2 w w.heap.size A fs) (hl : fs.length ≤ 100000) {b : Bool} (h : validRoll ⟨id, gr, co, lo, ma, wi, le, fs⟩ = b) :
  Calls Tryz.prog 48 #[.agg #[id, gr, co, lo, ma, wi, le, .slice A fs.length c]] w fun e w' => e = .returned (.bool b) ∧ Below w.heap.size w w' := by
 subst h; exact refValidRoll_any id gr co lo ma wi le A c fs w hS hl
set_option maxRecDepth 100000 in
set_option maxHeartbeats 4000000 in
theorem rreceive_any (v : RV) (r : RS) (s : SS) (P : Nat → Prop) (id gr co lo ma wi le : Int) (A : Option Addr) (c : Nat) (fs : List Pt) (w : World) (h : RAt w P v r) (hR : Rel r s) (hI : Inv s) (hF : Few s) (hP : ∀ k, P k → k < w.heap.size) (hS : Slc Pt.enc 2 w w.heap.size A fs) (hO : Offs P A fs) (hfl : fs.length ≤ 100000) :
  Calls Tryz.prog 17 #[.agg ↑v, .agg #[id, gr, co, lo, ma, wi, le, .slice A fs.length c]] w (RPost P (recS s ⟨id, gr, co, lo, ma, wi, le, fs⟩) (recE s ⟨id, gr, co, lo, ma, wi, le, fs⟩) w) := by
 have HR := hide hR
 have HI := hide hI
 have HLN := hide (hR.lens hI hF)
 have HPP := hide hP
 obtain ⟨hb, hgx, hr, hal, hsz⟩ := box3 w 38 43 38 ↑v #[id, gr, co, lo, ma, wi, le, .slice A fs.length c] ↑zrA
 have HW := hide hal
 go_enter Tryz.func17, Tryz.ntmps17
 go_upto_region 1 with fail
 generalize ((w.alloc (.cells ↑v 38)).alloc (.cells #[id, gr, co, lo, ma, wi, le, .slice A fs.length c] 43)).alloc (.cells ↑zrA 38) = W at *
 have HH := hide (h.box hal)
 have HP2 : Hid (∀ k, PB P w.heap.size W.heap.size k → k < W.heap.size) := PB.lt hP hal.size
 have HFS : Hid (Slc Pt.enc 2 W W.heap.size A fs) := Slc.on hS hal
 have HFO : Hid (Offs (PB P w.heap.size W.heap.size) A fs) := hO.box hS _
 have HSZ := hide hsz
 have HB := hide hb
 have HRB := hide hr
 obtain ⟨q, hq⟩ : ∃ q : Roll, q = ⟨id, gr, co, lo, ma, wi, le, fs⟩ := ⟨_, rfl⟩
 have HQ := hide hq
 have hB : Below W.heap.size W W := Below.refl _ _
 obtain ⟨c0, c1, c2, c3, c4, c5, c6, c7, c8⟩ := hb.all9
 obtain ⟨x0, x1, x2, x3, x4, x5, x6, x7⟩ := hgx.all8
 clear hR hI hF h hP hal hsz hb hr hS hO hq
 cases hv : validRoll ⟨id, gr, co, lo, ma, wi, le, fs⟩ with
 | false =>
  have HE : Hid (recE s ⟨id, gr, co, lo, ma, wi, le, fs⟩ = 20) := by show _ = _; unfold recE; rw [hv]; rfl
  have HV := hide hv
  clear hv
  go_wp2_with fail
  refine (vroll_is id gr co lo ma wi le A c fs W HFS.out hfl HV.out).mono ?_
  rintro e W1 ⟨rfl, hb1⟩
  clear c0 c1 c2 c3 c4 c5 c6 c7 c8 x0 x1 x2 x3 x4 x5 x6 x7
  replace hgx := hgx.below hb1 hgx.lt
  replace hB := hB.trans (hb1.mono hB.size)
  clear hb1
  have hbx := HB.out.below hB HB.out.lt
  obtain ⟨c0, c1, c2, c3, c4, c5, c6, c7, c8⟩ := hbx.all9
  clear hbx
  obtain ⟨x0, x1, x2, x3, x4, x5, x6, x7⟩ := hgx.all8
  clear x0 x1 x2 x3 x4 x5 x6 x7
  obtain ⟨v2, rfl⟩ := is_ v
  have hBB := HW.out.trans (hB.mono HW.out.size)
  have hr := HRB.out.below hB HRB.out.lt
  clear hgx
  go_wp2_with (refine wpList_store_blk rfl 38 _ _ rfl ↑v2 hr rfl rfl (by kernel_rfl) rfl (by simp [Value.oneCell']) ?_; intro W9 hr9 hc9; obtain ⟨q0, q1, q2, q3, q4, q5, q6, q7, q8⟩ := hr9.all9)
  refine bodyPost_ret (v := .tuple #[.agg ↑v2, .int .i64 20]) (by simp [results, Tryz.results17, go_sem, q0, q1, q2, q3, q4, q5, q6, q7, q8]) rfl ?_
  rw [HE.out]
  refine ⟨v2, r, rfl, (RAt.unbox (HH.out.below hB) hc9 ⟨by omega, by have := HSZ.out; omega⟩), ?_, hBB.trans (hc9.below1 hBB.size (by omega))⟩
  rw [rec_err HE.out (by decide)]; exact HR.out
 | true =>
  have HV := hide hv
  clear hv
  go_wp2_with fail
  refine (vroll_is id gr co lo ma wi le A c fs W HFS.out hfl HV.out).mono ?_
  rintro e W1 ⟨rfl, hb1⟩
  clear c0 c1 c2 c3 c4 c5 c6 c7 c8 x0 x1 x2 x3 x4 x5 x6 x7
  replace hgx := hgx.below hb1 hgx.lt
  replace hB := hB.trans (hb1.mono hB.size)
  clear hb1
  have hbx := HB.out.below hB HB.out.lt
  obtain ⟨c0, c1, c2, c3, c4, c5, c6, c7, c8⟩ := hbx.all9
  clear hbx
  obtain ⟨x0, x1, x2, x3, x4, x5, x6, x7⟩ := hgx.all8
  cases hp : look s.parent id with
  | some u =>
   have HE : Hid (recE s ⟨id, gr, co, lo, ma, wi, le, fs⟩ = 22) := by show _ = _; unfold recE; rw [HV.out, if_pos rfl, if_pos (by rw [hp]; rfl)]
   have HLK := hide ((HR.out.lk id).trans hp)
   clear hp
   go_wp2_with fail
   refine (parent_any v r _ id W1 (HH.out.below hB) HLN.out.2.2.1 (some u) HLK.out).mono ?_
   rintro e W2 ⟨rfl, hb1⟩
   clear c0 c1 c2 c3 c4 c5 c6 c7 c8 x0 x1 x2 x3 x4 x5 x6 x7
   replace hgx := hgx.below hb1 hgx.lt
   replace hB := hB.trans (hb1.mono hB.size)
   clear hb1
   have hbx := HB.out.below hB HB.out.lt
   obtain ⟨c0, c1, c2, c3, c4, c5, c6, c7, c8⟩ := hbx.all9
   clear hbx
   obtain ⟨x0, x1, x2, x3, x4, x5, x6, x7⟩ := hgx.all8
   clear x0 x1 x2 x3 x4 x5 x6 x7
   obtain ⟨v2, rfl⟩ := is_ v
   have hBB := HW.out.trans (hB.mono HW.out.size)
   have hr := HRB.out.below hB HRB.out.lt
   clear hgx
   go_wp2_with (refine wpList_store_blk rfl 38 _ _ rfl ↑v2 hr rfl rfl (by kernel_rfl) rfl (by simp [Value.oneCell']) ?_; intro W9 hr9 hc9; obtain ⟨q0, q1, q2, q3, q4, q5, q6, q7, q8⟩ := hr9.all9)
   refine bodyPost_ret (v := .tuple #[.agg ↑v2, .int .i64 22]) (by simp [results, Tryz.results17, go_sem, q0, q1, q2, q3, q4, q5, q6, q7, q8]) rfl ?_
   rw [HE.out]
   refine ⟨v2, r, rfl, (RAt.unbox (HH.out.below hB) hc9 ⟨by omega, by have := HSZ.out; omega⟩), ?_, hBB.trans (hc9.below1 hBB.size (by omega))⟩
   rw [rec_err HE.out (by decide)]; exact HR.out
  | none =>
   have HLK := hide ((HR.out.lk id).trans hp)
   have HPN := hide hp
   clear hp
   go_wp2_with fail
   refine (parent_any v r _ id W1 (HH.out.below hB) HLN.out.2.2.1 none HLK.out).mono ?_
   rintro e W2 ⟨rfl, hb1⟩
   clear c0 c1 c2 c3 c4 c5 c6 c7 c8 x0 x1 x2 x3 x4 x5 x6 x7
   replace hgx := hgx.below hb1 hgx.lt
   replace hB := hB.trans (hb1.mono hB.size)
   clear hb1
   have hbx := HB.out.below hB HB.out.lt
   obtain ⟨c0, c1, c2, c3, c4, c5, c6, c7, c8⟩ := hbx.all9
   clear hbx
   obtain ⟨x0, x1, x2, x3, x4, x5, x6, x7⟩ := hgx.all8
   have HKI := hide (kin_is HR.out ⟨id, gr, co, lo, ma, wi, le, fs⟩)
   obtain ⟨o, ho⟩ := nm_ (r.lotR lo)
   have HLO := hide ho
   clear ho
   go_wp2_with fail
   refine (lot_any v r _ lo W2 (HH.out.below hB) HLN.out.2.2.2.1 o HLO.out).mono ?_
   rintro e W3 ⟨⟨g, rfl, hgg⟩, hb1⟩
   have HGG := hide hgg
   have hgy := Blk.new W3 43 #[g.id, g.gr, g.co, g.lo, g.ma, g.wi, g.le, .slice g.A g.n g.c]
   have hal := (Below.refl W3.heap.size W3).alloc (Nat.le_refl _) (.cells #[g.id, g.gr, g.co, g.lo, g.ma, g.wi, g.le, .slice g.A g.n g.c] 43)
   clear hgg
   go_upto_region 7 with fail
   obtain ⟨gx, hgxe⟩ := nm_ W3.heap.size
   generalize W3.alloc (.cells #[g.id, g.gr, g.co, g.lo, g.ma, g.wi, g.le, .slice g.A g.n g.c] 43) = W4 at *
   replace hb1 := hb1.trans (hal.mono hb1.size)
   rw [hgxe] at hgy ⊢
   clear hal hgxe
   clear c0 c1 c2 c3 c4 c5 c6 c7 c8 x0 x1 x2 x3 x4 x5 x6 x7
   replace hgx := hgx.below hb1 hgx.lt
   replace hB := hB.trans (hb1.mono hB.size)
   clear hb1
   have hbx := HB.out.below hB HB.out.lt
   obtain ⟨c0, c1, c2, c3, c4, c5, c6, c7, c8⟩ := hbx.all9
   clear hbx
   obtain ⟨x0, x1, x2, x3, x4, x5, x6, x7⟩ := hgx.all8
   have g1 := hgy.cell_ 1 (v := g.gr) rfl
   have g2 := hgy.cell_ 2 (v := g.co) rfl
   have g4 := hgy.cell_ 4 (v := g.ma) rfl
   clear hgy
   clear c0 c1 c2 c3 c4 c6 c7 c8
   cases o
   case' none =>
    have HKT : Hid (kinOk s ⟨id, gr, co, lo, ma, wi, le, fs⟩ = true) := by
     show _ = _
     rw [HKI.out, show r.lotR (⟨id, gr, co, lo, ma, wi, le, fs⟩ : Roll).lot = none from HLO.out]
    go_upto_region 9 with fail
    clear c5 x0 x1 x2 x3 x4 x5 x6 x7 g1 g2 g4
   case' some k =>
    obtain rfl : g = k := HGG.out
    have HKE : Hid (kinOk s ⟨id, gr, co, lo, ma, wi, le, fs⟩ = (decide (g.gr = gr) && decide (g.co = co) && decide (g.ma = ma))) := by
     show _ = _
     rw [HKI.out, show r.lotR (⟨id, gr, co, lo, ma, wi, le, fs⟩ : Roll).lot = some g from HLO.out]
    by_cases a1 : g.gr = gr
    case neg =>
     have HE : Hid (recE s ⟨id, gr, co, lo, ma, wi, le, fs⟩ = 23) := by
      show _ = _
      unfold recE
      rw [HV.out, if_pos rfl, if_neg (by rw [HPN.out]; decide), if_neg (by rw [HKE.out]; simp [a1])]
     go_upto_region 8 with fail
     clear c5 x0 x1 x2 x3 x4 x5 x6 x7 g1 g2 g4
     have hbx := HB.out.below hB HB.out.lt
     obtain ⟨c0, c1, c2, c3, c4, c5, c6, c7, c8⟩ := hbx.all9
     clear hbx
     obtain ⟨v2, rfl⟩ := is_ v
     have hBB := HW.out.trans (hB.mono HW.out.size)
     have hr := HRB.out.below hB HRB.out.lt
     clear hgx
     go_wp2_with (refine wpList_store_blk rfl 38 _ _ rfl ↑v2 hr rfl rfl (by kernel_rfl) rfl (by simp [Value.oneCell']) ?_; intro W9 hr9 hc9; obtain ⟨q0, q1, q2, q3, q4, q5, q6, q7, q8⟩ := hr9.all9)
     refine bodyPost_ret (v := .tuple #[.agg ↑v2, .int .i64 23]) (by simp [results, Tryz.results17, go_sem, q0, q1, q2, q3, q4, q5, q6, q7, q8]) rfl ?_
     rw [HE.out]
     refine ⟨v2, r, rfl, (RAt.unbox (HH.out.below hB) hc9 ⟨by omega, by have := HSZ.out; omega⟩), ?_, hBB.trans (hc9.below1 hBB.size (by omega))⟩
     rw [rec_err HE.out (by decide)]; exact HR.out
    by_cases a2 : g.co = co
    case neg =>
     have HE : Hid (recE s ⟨id, gr, co, lo, ma, wi, le, fs⟩ = 23) := by
      show _ = _
      unfold recE
      rw [HV.out, if_pos rfl, if_neg (by rw [HPN.out]; decide), if_neg (by rw [HKE.out]; simp [a2])]
     go_upto_region 8 with fail
     clear c5 x0 x1 x2 x3 x4 x5 x6 x7 g1 g2 g4
     have hbx := HB.out.below hB HB.out.lt
     obtain ⟨c0, c1, c2, c3, c4, c5, c6, c7, c8⟩ := hbx.all9
     clear hbx
     obtain ⟨v2, rfl⟩ := is_ v
     have hBB := HW.out.trans (hB.mono HW.out.size)
     have hr := HRB.out.below hB HRB.out.lt
     clear hgx
     go_wp2_with (refine wpList_store_blk rfl 38 _ _ rfl ↑v2 hr rfl rfl (by kernel_rfl) rfl (by simp [Value.oneCell']) ?_; intro W9 hr9 hc9; obtain ⟨q0, q1, q2, q3, q4, q5, q6, q7, q8⟩ := hr9.all9)
     refine bodyPost_ret (v := .tuple #[.agg ↑v2, .int .i64 23]) (by simp [results, Tryz.results17, go_sem, q0, q1, q2, q3, q4, q5, q6, q7, q8]) rfl ?_
     rw [HE.out]
     refine ⟨v2, r, rfl, (RAt.unbox (HH.out.below hB) hc9 ⟨by omega, by have := HSZ.out; omega⟩), ?_, hBB.trans (hc9.below1 hBB.size (by omega))⟩
     rw [rec_err HE.out (by decide)]; exact HR.out
    by_cases a3 : g.ma = ma
    case neg =>
     have HE : Hid (recE s ⟨id, gr, co, lo, ma, wi, le, fs⟩ = 23) := by
      show _ = _
      unfold recE
      rw [HV.out, if_pos rfl, if_neg (by rw [HPN.out]; decide), if_neg (by rw [HKE.out]; simp [a3])]
     go_upto_region 8 with fail
     clear c5 x0 x1 x2 x3 x4 x5 x6 x7 g1 g2 g4
     have hbx := HB.out.below hB HB.out.lt
     obtain ⟨c0, c1, c2, c3, c4, c5, c6, c7, c8⟩ := hbx.all9
     clear hbx
     obtain ⟨v2, rfl⟩ := is_ v
     have hBB := HW.out.trans (hB.mono HW.out.size)
     have hr := HRB.out.below hB HRB.out.lt
     clear hgx
     go_wp2_with (refine wpList_store_blk rfl 38 _ _ rfl ↑v2 hr rfl rfl (by kernel_rfl) rfl (by simp [Value.oneCell']) ?_; intro W9 hr9 hc9; obtain ⟨q0, q1, q2, q3, q4, q5, q6, q7, q8⟩ := hr9.all9)
     refine bodyPost_ret (v := .tuple #[.agg ↑v2, .int .i64 23]) (by simp [results, Tryz.results17, go_sem, q0, q1, q2, q3, q4, q5, q6, q7, q8]) rfl ?_
     rw [HE.out]
     refine ⟨v2, r, rfl, (RAt.unbox (HH.out.below hB) hc9 ⟨by omega, by have := HSZ.out; omega⟩), ?_, hBB.trans (hc9.below1 hBB.size (by omega))⟩
     rw [rec_err HE.out (by decide)]; exact HR.out
    have HKT : Hid (kinOk s ⟨id, gr, co, lo, ma, wi, le, fs⟩ = true) := by
     show _ = _
     rw [HKE.out]; simp [a1, a2, a3]
    go_upto_region 9 with fail
    clear c5 x0 x1 x2 x3 x4 x5 x6 x7 g1 g2 g4 a1 a2 a3
   all_goals
    have HKB := hide (HB.out.below hB HB.out.lt)
    have HPX := hide hgx
    have hHB := HH.out.below hB
    have HNR := hide hHB.nr
    have hnr : v.nr ≤ 1000000 := by rw [hHB.nr]; exact HLN.out.2.2.2.1
    have HSL := hide hHB.rolls
    have HHB := hide hHB
    have HBW := hide hB
    have HPC : Hid (∀ k, PB P w.heap.size W.heap.size k → k < W4.heap.size) := fun k hk => Nat.lt_of_lt_of_le (HP2.out k hk) hB.size
    have hrl : r.rolls.length ≤ 1000000 := HLN.out.2.2.2.1
    obtain ⟨Wb, rfl⟩ := is_ W
    obtain ⟨W, rfl⟩ := is_ W4
    have hg9 : ∀ z9 ∈ ([⟨0, 3, fun u w => Own w W.heap.size 43 8 RH.enc u []⟩, ⟨3, 3, fun u w => Own w W.heap.size 43 8 RH.enc u r.rolls⟩, ⟨5, 5, OneOk W.heap.size 43 #[id, gr, co, lo, ma, wi, le, .slice A fs.length c]⟩] : List Ow), z9.Good := fun z9 hz9 => by
     simp only [List.mem_cons, List.not_mem_nil, or_false] at hz9
     rcases hz9 with rfl | rfl | rfl
     ·exact own_ow _ _ _ _ _ _ _
     ·exact own_ow _ _ _ _ _ _ _
     ·exact one_ow _ _ _ _ _
    clear hgx hHB hB
    refine wp_region_owns 6 [1, 2, 4] [0, 3, 5] [⟨0, 3, fun u w => Own w W.heap.size 43 8 RH.enc u []⟩, ⟨3, 3, fun u w => Own w W.heap.size 43 8 RH.enc u r.rolls⟩, ⟨5, 5, OneOk W.heap.size 43 #[id, gr, co, lo, ma, wi, le, .slice A fs.length c]⟩]
     hg9 (by kernel_rfl) (by kernel_rfl) (by kernel_rfl) (by kernel_rfl) (by kernel_rfl) ?_
    apply Exists.intro
    refine ⟨fun W1 hb => ?_, ?_⟩
    ·have hx1 := HKB.out.below hb HKB.out.lt
     have hx2 := HPX.out.below hb HPX.out.lt
     have y_c5 := Since.cell (hx1.cell_ 5 (v := .slice v.Ar v.nr v.cr) rfl)
     obtain ⟨y_x0, y_x1, y_x2, y_x3, y_x4, y_x5, y_x6, y_x7⟩ := hx2.sin8
     clear hx1 hx2
     dsimp only [pick, List.filterMap, List.getElem?_cons_succ, List.getElem?_cons_zero]
     repeat (go_big_quiet_step ((fail)))
     exact wpQuiet_nil rfl
    refine ownWalk_own (⟨0, 3, fun u w => Own w W.heap.size 43 8 RH.enc u []⟩ : Ow) hg9 rfl rfl rfl rfl (by simp) (by simp) (fun w1 γ' hb hD hn hp => OwRun.alloc (v := fun g => .slice (some ⟨g, 0, none⟩) 0 0) (o := .cells #[] 43) hb (exec_build rfl (by simp) (run_build0 et_roll w1)) (Own.empty_ (Blk.new w1 _ _) hb.size) (fun g b h => by injection h with h; exact h.symm)) ?_
    intro u0
    simp only [List.setIfInBounds_toArray, List.set_cons_succ, List.set_cons_zero]
    refine ownWalk_own (⟨3, 3, fun u w => Own w W.heap.size 43 8 RH.enc u r.rolls⟩ : Ow) hg9 rfl rfl rfl rfl (by simp) (by simp) (fun w1 γ' hb hD hn hp => OwRun.app (xs := []) (ys := r.rolls) _ (⟨0, 3, fun u w => Own w W.heap.size 43 8 RH.enc u []⟩ : Ow) (by simp) rfl (by simp) (fun u w h => h) (fun u w h => h) et_roll rh_len rh_one rfl rfl rfl (HSL.out.below hb) HNR.out.symm (by simp; omega) hb hD ((hp 0 (by simp [preO])).trans rfl) hn) ?_
    intro u3
    simp only [List.setIfInBounds_toArray, List.set_cons_succ, List.set_cons_zero]
    refine ownWalk_own (⟨5, 5, OneOk W.heap.size 43 #[id, gr, co, lo, ma, wi, le, .slice A fs.length c]⟩ : Ow) hg9 rfl rfl rfl rfl (by simp) (by simp) (fun w1 γ' hb hD hn hp => OwRun.alloc (v := fun g => .slice (some ⟨g, 0, none⟩) 1 1) (o := .cells #[id, gr, co, lo, ma, wi, le, .slice A fs.length c] 43) hb (exec_build rfl (by simp [Act.eval] <;> rfl) (run_build1 et_roll (.agg #[id, gr, co, lo, ma, wi, le, .slice A fs.length c]) rfl (by omega) w1)) ⟨_, rfl, Blk.new w1 _ _, hb.size⟩ (fun g b h => by injection h with h; exact h.symm)) ?_
    intro u5
    simp only [List.setIfInBounds_toArray, List.set_cons_succ, List.set_cons_zero]
    refine ownWalk_nil ?_
    intro W1 hb hD
    have o3 : Own W1 W.heap.size 43 8 RH.enc u3 r.rolls := hD.ok ⟨3, 3, fun u w => Own w W.heap.size 43 8 RH.enc u r.rolls⟩ (by simp) u3 rfl (.inl rfl)
    obtain ⟨g6, rfl, b6, _⟩ := hD.ok ⟨5, 5, OneOk W.heap.size 43 #[id, gr, co, lo, ma, wi, le, .slice A fs.length c]⟩ (by simp) u5 rfl (.inl rfl)
    clear hD hg9
    simp only [List.drop_succ_cons, List.drop_zero]
    go_upto_region 10 with (first
     | (at_builtin; refine wpList_app_own _ _ rfl rfl et_roll o3 rfl rfl (Blk.slc1 (y := (⟨id, gr, co, lo, ma, wi, le, A, fs.length, c⟩ : RH)) b6 rfl) rfl rh_len rh_one (by omega) hb.size ?_; intro v' W2 o7 hb7 hgr7; obtain ⟨A7, c7, rfl, S7⟩ := o7.form rh_len)
     | (refine wpList_store_at rfl 33 _ _ rfl (.slice A7 _ c7) (HKB.out.below (hb.trans hb7) HKB.out.lt) rfl rfl (by kernel_rfl) rfl (by simp) rfl ?_; intro W5 hs5 hc5))
    have hb2 := hb.trans hb7
    obtain ⟨x, hx⟩ : ∃ x : RH, x = ⟨id, gr, co, lo, ma, wi, le, A, fs.length, c⟩ := ⟨_, rfl⟩
    rw [← hx] at S7 o7
    have HX := hide hx
    obtain ⟨v3, hv3⟩ : ∃ y : RV, y = { v with Ar := A7, nr := (r.rolls ++ [x]).length, cr := c7 } := ⟨_, rfl⟩
    have hA2 : RAt W2 (PB P w.heap.size Wb.heap.size) v3 { r with rolls := r.rolls ++ [x] } := by
     rw [hv3]
     exact HHB.out.put_rolls hb2 HPC.out rfl S7 (o7.from_ (Nat.le_refl _))
    have hs5' : Blk W5 w.heap.size 38 ↑v3 := by
     rw [hv3]
     have h5 := hs5
     simp at h5 ⊢
     exact h5
    have hin : PB P w.heap.size Wb.heap.size w.heap.size := .inr ⟨Nat.le_refl _, by have := HSZ.out; omega⟩
    have hC5 : Chg (PB P w.heap.size Wb.heap.size) Wb W5 := ((Chg.of_below HBW.out).trans (.of_below (hb2.mono (Nat.le_refl _)))).trans (hc5.mono fun k _ hk => by subst hk; exact hin)
    have hA := hA2.chg (hc5.mono fun k _ hk => by subst hk; exact hin)
    have hfs := HFS.out.chgO hC5 HFO.out
    have hgx := (HPX.out.below hb2 HPX.out.lt).chg1 hc5 (by omega)
    have hr := ((HRB.out.below HBW.out HRB.out.lt).below hb2 (by have := HRB.out.lt; have := HBW.out.size; omega)).chg1 hc5 (by omega)
    have hBB : Below w.heap.size w W5 := (HW.out.trans ((HBW.out.trans (hb2.mono HBW.out.size)).mono HW.out.size)).trans (hc5.below1 (by have := HW.out.size; have := HBW.out.size; have := hb2.size; omega) (Nat.le_refl _))
    have HP5 : Hid (∀ k, PB P w.heap.size Wb.heap.size k → k < W5.heap.size) := fun k hk => by have := HPC.out k hk; have := hb2.size; have := hc5.size; omega
    have hs := hs5'
    clear hs5 hs5' hc5 hA2 hv3 hb2 hb7 hb S7 o7 o3 b6 hgr7 hnr hrl HKB HPX HNR HSL HHB HPC hC5 hx
    obtain ⟨v, rfl⟩ := is_ v3
    try dsimp only [Act.put]
    obtain ⟨c0, c1, c2, c3, c4, c5, c6, c7, c8⟩ := hs.all9
    obtain ⟨x0, x1, x2, x3, x4, x5, x6, x7⟩ := hgx.all8
    have hv3 : RsV W5 (PB P w.heap.size Wb.heap.size) ⟨id, id, gr, co, lo, ma, wi, le, fs⟩ ⟨id, id, gr, co, lo, ma, wi, le, A, fs.length, c⟩ := ⟨A, c, rfl, hfs, HFO.out⟩
    go_wp2_with (refine wpList_bld rfl (.agg #[id, id, gr, co, lo, ma, wi, le, .slice A fs.length c]) rfl (by simp [Act.eval]; rfl) (run_roll id gr co lo ma wi le A fs.length c) ?_)
    refine (with_any v { r with rolls := r.rolls ++ [x] } _ ⟨id, id, gr, co, lo, ma, wi, le, fs⟩ ⟨id, id, gr, co, lo, ma, wi, le, A, fs.length, c⟩ W5 hA hv3 HP5.out HLN.out.1).mono ?_
    rintro e W7 ⟨ve, rfl, hA7, hb7⟩
    clear c0 c1 c2 c3 c4 c5 c6 c7 c8 x0 x1 x2 x3 x4 x5 x6 x7
    replace hr := hr.below hb7 hr.lt
    replace hBB := hBB.trans (hb7.mono hBB.size)
    replace hs := hs.below hb7 hs.lt
    replace hgx := hgx.below hb7 hgx.lt
    have HP7 : Hid (∀ k, PB P w.heap.size Wb.heap.size k → k < W7.heap.size) := fun k hk => Nat.lt_of_lt_of_le (HP5.out k hk) hb7.size
    clear hb7 hA hv3 hfs
    go_upto_region 11 with (refine wpList_store_blk rfl 38 _ _ rfl ↑ve hs rfl rfl (by kernel_rfl) rfl (by simp [Value.oneCell']) ?_; intro W8 hs8 hc8)
    try dsimp only [Act.put]
    have hA := hA7.chg (hc8.mono fun k _ hk => by subst hk; exact hin)
    replace hr := hr.chg1 hc8 (by omega)
    replace hgx := hgx.chg1 hc8 (by omega)
    replace hBB := hBB.trans (hc8.below1 hBB.size (Nat.le_refl _))
    have HP8 : Hid (∀ k, PB P w.heap.size Wb.heap.size k → k < W8.heap.size) := fun k hk => Nat.lt_of_lt_of_le (HP7.out k hk) hc8.size
    clear hs hA7 hc8
    obtain ⟨v, rfl⟩ := is_ ve
    obtain ⟨c0, c1, c2, c3, c4, c5, c6, c7, c8⟩ := hs8.all9
    have x0 := hgx.cell_ 0 (v := id) rfl
    clear hgx
    go_wp2_with fail
    refine (linked_any v _ _ id 0 W8 hA HP8.out HLN.out.2.2.1).mono ?_
    rintro e W9a ⟨v2, rfl, hA9, hb9⟩
    clear c0 c1 c2 c3 c4 c5 c6 c7 c8
    clear x0
    replace hr := hr.below hb9 hr.lt
    replace hBB := hBB.trans (hb9.mono hBB.size)
    clear hb9 hs8 hA
    have HE : Hid (recE s ⟨id, gr, co, lo, ma, wi, le, fs⟩ = 0) := by
     show _ = _
     unfold recE
     rw [HV.out, if_pos rfl, if_neg (by rw [HPN.out]; decide), if_pos HKT.out]
    go_wp2_with (refine wpList_store_blk rfl 38 _ _ rfl ↑v2 hr rfl rfl (by kernel_rfl) rfl (by simp [Value.oneCell']) ?_; intro W9 hr9 hc9; obtain ⟨q0, q1, q2, q3, q4, q5, q6, q7, q8⟩ := hr9.all9)
    refine bodyPost_ret (v := .tuple #[.agg ↑v2, .int .i64 0]) (by simp [results, Tryz.results17, go_sem, q0, q1, q2, q3, q4, q5, q6, q7, q8]) rfl ?_
    rw [HE.out, rec_ok HE.out]
    have hrel : Rel (r.rolled x fs) (recFn s ⟨id, gr, co, lo, ma, wi, le, fs⟩) := by
     have := rel_rec HR.out HI.out (x := x) (fs := fs) (by rw [HX.out]; exact HV.out) (by rw [HX.out]; exact HPN.out) (by rw [HX.out]; exact HKT.out)
     rw [HX.out] at this
     rw [HX.out]; exact this
    have hA10 : RAt W9a (PB P w.heap.size Wb.heap.size) v2 (r.rolled x fs) := by
     have : r.rolled x fs = (({ r with rolls := r.rolls ++ [x] } : RS).withI ⟨id, id, gr, co, lo, ma, wi, le, fs⟩).linked id 0 := by rw [HX.out]; rfl
     rw [this]; exact hA9
    exact ⟨v2, _, rfl, hA10.unbox hc9 ⟨by omega, by have := HSZ.out; omega⟩, hrel, hBB.trans (hc9.below1 hBB.size (by omega))⟩
end Go.Proofs.YtehlbomkldnalaaGreat

/- A call of both stores: Receive. -/
namespace Go.Proofs.YtehlbomkldnalaaGreat
open Go Go.RowKit
set_option maxRecDepth 100000 in
set_option maxHeartbeats 4000000 in
theorem call0_any (p : Fp) (s : SS) (P : Nat → Prop) (v : RV) (r : RS) (x : CallV) (fs : List Pt) (w : World) (hX : StA w p s) (hI : Inv s) (hF : Room s 50) (h : RAt w P v r) (hR : Rel r s) (hP : ∀ k, P k → k < w.heap.size) (hPp : ∀ k, p.has k → P k) (hn : x.n = fs.length) (hS : Slc Pt.enc 2 w w.heap.size x.A fs) (hO : Offs P x.A fs) (hfl : fs.length ≤ 100000) (hk : kd x = 0) :
  Calls Tryz.prog 9 #[.pointer (some ⟨p.g, 0, none⟩), .agg ↑v, .agg ↑x] w (ClPost p (callF s x fs) P w) := by
 have HC : Hid (callF s x fs = recS s ⟨x.id, x.gr, x.co, x.lo, x.ma, x.wi, x.le, fs⟩) := by show _ = _; unfold callF doF; rw [hk]; rfl
 have HI := hide hI
 have HF := hide hF
 have HR := hide hR
 have HN := hide hn
 clear hn
 obtain ⟨hrb, hcb, hob, hal, hsz⟩ := box3 w 38 47 38 ↑v ↑x ↑zrA
 go_enter Tryz.func9, Tryz.ntmps9
 go_upto_region 1 with fail
 generalize ((w.alloc (.cells ↑v 38)).alloc (.cells ↑x 47)).alloc (.cells ↑zrA 38) = Wb at *
 have y0 := hcb.cell_ 0 rfl
 have HX := hide (hX.below hal)
 have HH := hide (h.box hal)
 have HP2 : Hid (∀ k, PB P w.heap.size Wb.heap.size k → k < Wb.heap.size) := PB.lt hP hal.size
 have HSZ := hide hsz
 have HW := hide hal
 have HRB := hide hrb
 have HCB := hide hcb
 have HOB := hide hob
 have HPS := hide hPp
 have HPL := hide hP
 have HSB := hide (Slc.on hS hal)
 have HOF := hide (hO.box hS Wb.heap.size)
 clear hS hO
 clear hX hI hF h hR hP hPp hrb hcb hob hal hsz
 go_upto_region 2 with fail
 have hk2 : (IntKind.u64.wrap x.kind).tmod 9 = 0 := hk
 rw [hk2]
 clear hk hk2 y0
 have hrb := HRB.out
 have hcb := HCB.out
 obtain ⟨c0, c1, c2, c3, c4, c5, c6, c7, c8⟩ := hrb.all9
 have y1 := hcb.cell_ 1 rfl
 have y2 := hcb.cell_ 2 rfl
 have y3 := hcb.cell_ 3 rfl
 have y4 := hcb.cell_ 4 rfl
 have y5 := hcb.cell_ 5 rfl
 have y6 := hcb.cell_ 6 rfl
 have y7 := hcb.cell_ 7 rfl
 have y8 : Wb.cell? ⟨w.heap.size + 1, 8, none⟩ = some (.slice x.A fs.length x.c) := by rw [← HN.out]; exact hcb.cell_ 8 rfl
 have y9 := hcb.cell_ 9 rfl
 have y10 := hcb.cell_ 10 rfl
 have y11 := hcb.cell_ 11 rfl
 have y12 := hcb.cell_ 12 rfl
 have y13 := hcb.cell_ 13 rfl
 have y14 := hcb.cell_ 14 rfl
 have y15 := hcb.cell_ 15 rfl
 have y16 := hcb.cell_ 16 rfl
 clear hrb hcb
 go_wp2_with fail
 refine (rreceive_any v r s _ x.id x.gr x.co x.lo x.ma x.wi x.le x.A x.c fs Wb HH.out HR.out HI.out HF.out.few HP2.out HSB.out HOF.out hfl).mono ?_
 rintro e W1 ⟨v2, r2, rfl, hA2, hR2, hb2⟩
 clear c0 c1 c2 c3 c4 c5 c6 c7 c8 y1 y2 y3 y4 y5 y6 y7 y8 y9 y10 y11 y12 y13 y14 y15 y16
 have hbx := Blk.new W1 38 ↑v2
 have hal := (Below.refl W1.heap.size W1).alloc (Nat.le_refl _) (.cells ↑v2 38)
 go_upto_region 4 with fail
 obtain ⟨bx, hbxe⟩ := nm_ W1.heap.size
 rw [hbxe] at hbx ⊢
 have hB2 := hb2.trans (hal.mono hb2.size)
 have HBG : Hid (Wb.heap.size ≤ bx) := by show _ ≤ _; have := hb2.size; omega
 have HA2 := hide (hA2.below hal)
 have HR2 := hide hR2
 clear hA2 hR2 hbxe hb2
 generalize W1.alloc (.cells ↑v2 38) = W2 at *
 clear hal
 have HX2 := hide (HX.out.below hB2)
 have HO2 := hide (HOB.out.below hB2 HOB.out.lt)
 have HC2 := hide (HCB.out.below hB2 HCB.out.lt)
 have HBX := hide hbx
 have HNG : Hid (¬ p.has (w.heap.size + 2)) := HX2.out.nhas HO2.out (by decide)
 have HNC : Hid (¬ p.has (w.heap.size + 1)) := HX2.out.nhas HC2.out (by decide)
 have HNB : Hid (¬ p.has bx) := HX2.out.nhas HBX.out (by decide)
 have HB2 := hide hB2
 clear hbx hB2
 refine wp_region_callA (args := #[.pointer (some ⟨p.g, 0, none⟩), .agg #[x.id, x.gr, x.co, x.lo, x.ma, x.wi, x.le, .slice x.A fs.length x.c]]) (t := 38) (old := ↑zrA) (cells := ↑v2) p.has 8 4 6 7 [0, 1, 2, 3, 5] (.int .i64 (recE s ⟨x.id, x.gr, x.co, x.lo, x.ma, x.wi, x.le, fs⟩)) (.bool true) (fun w0 => StA w0 p s) (fun w0 => StA w0 p (recS s ⟨x.id, x.gr, x.co, x.lo, x.ma, x.wi, x.le, fs⟩)) (by kernel_rfl) (by kernel_rfl) (by kernel_rfl) (by kernel_rfl) (by decide) (by decide) (by decide) HNG.out HX2.out (fun w0 w1 hb h => h.below hb) (fun w0 w1 hb h => h.below hb) (fun w0 w1 cs hb hc h => h.chg1 hc hb (by decide) (by decide)) HO2.out rfl rfl rfl rfl rfl rfl rfl rfl rfl rfl rfl (fun _ _ => rfl) (by kernel_rfl) rfl (by simp [Value.oneCell']) ?_
 apply Exists.intro
 refine ⟨fun W3 hc => ?_, ?_⟩
 ·have hx1 := HBX.out.chg hc (by rintro (h | h); exact HNB.out h; have := HBG.out; have := HSZ.out; omega)
  obtain ⟨y_c0, y_c1, y_c2, y_c3, y_c4, y_c5, y_c6, y_c7, y_c8⟩ := hx1.sin9
  have hx2 := HC2.out.chg hc (by rintro (h | h); exact HNC.out h; omega)
  have y_k1 := Since.cell (hx2.cell_ 1 (v := x.id) rfl)
  have y_k2 := Since.cell (hx2.cell_ 2 (v := x.gr) rfl)
  have y_k3 := Since.cell (hx2.cell_ 3 (v := x.co) rfl)
  have y_k4 := Since.cell (hx2.cell_ 4 (v := x.lo) rfl)
  have y_k5 := Since.cell (hx2.cell_ 5 (v := x.ma) rfl)
  have y_k6 := Since.cell (hx2.cell_ 6 (v := x.wi) rfl)
  have y_k7 := Since.cell (hx2.cell_ 7 (v := x.le) rfl)
  have y_k8 := Since.cell (hx2.cell_ 8 (v := .slice x.A fs.length x.c) (by rw [← HN.out]; rfl))
  clear hx1 hx2
  dsimp only [pick, List.filterMap, List.getElem?_cons_succ, List.getElem?_cons_zero]
  repeat (go_big_quiet_step (fail))
  exact wpQuiet_nil rfl
 refine ⟨by simp [Act.eval], fun w1 hc1 hX1 => (receive_any p s x.id x.gr x.co x.lo x.ma x.wi x.le x.A x.c fs w1 hX1 HI.out HF.out.few ((Slc.on HSB.out HB2.out).chgO hc1 (fun hne ad ha hk => HOF.out hne ad ha (by rcases hk with h | h; exact .inl (HPS.out _ h); have h9 : ad.block = w.heap.size + 2 := h; exact .inr ⟨by omega, by have := HSZ.out; omega⟩))) hfl (fun hne ad ha hk => HOF.out hne ad ha (.inl (HPS.out _ hk)))).mono fun e w3 h => h, fun w1 => ?_, rfl, rfl, fun w9 hc9 hX9 hs9 => ?_⟩
 ·simp [execOp, Act.eval, Act.put, eqI, eqGuard]
 dsimp only [Act.put]
 simp only [List.setIfInBounds_toArray, List.set_cons_succ, List.set_cons_zero, List.drop_succ_cons, List.drop_zero]
 obtain ⟨c0, c1, c2, c3, c4, c5, c6, c7, c8⟩ := hs9.all9
 clear hs9
 go_wp2_with fail
 refine bodyPost_ret (v := .tuple #[.agg ↑v2, .bool true]) (by simp [results, Tryz.results9, go_sem, c0, c1, c2, c3, c4, c5, c6, c7, c8]) rfl ?_
 have hcw := (((Chg.of_below (S := fun k => p.has k ∨ k = w.heap.size + 2) (HW.out.trans (HB2.out.mono HW.out.size))).trans hc9).drop_ (by omega))
 refine ⟨p, v2, r2, rfl, by rw [HC.out]; exact .mk1 hX9 hcw, ?_, by rw [HC.out]; exact HR2.out⟩
 exact (HA2.out.chg (hc9.mono fun k _ hk => by rcases hk with h | h; exact .inl (HPS.out k h); exact .inr ⟨by omega, by have := HSZ.out; omega⟩)).less fun k hk => by rcases hk with h | h; exact .inl h; exact .inl (HPS.out k h)
end Go.Proofs.YtehlbomkldnalaaGreat

/- A call of both stores: Lots. -/
namespace Go.Proofs.YtehlbomkldnalaaGreat
open Go Go.RowKit
theorem lotsL_len {s : SS} {n : Need} {day : Int} (hF : Few s) : (lotsL s n day).length ≤ 1000000 := by
 unfold lotsL
 split
 ·unfold lotsF
  refine Nat.le_trans (List.length_filter_le _ _) ?_
  unfold ordF
  rw [sortK_len]
  exact Nat.le_trans (lots_len s n) hF.lo
 ·exact Nat.zero_le _
theorem eqL_same (l : List Int) : eqL l l = true := by unfold eqL; simp
set_option maxRecDepth 100000 in
set_option maxHeartbeats 4000000 in
theorem call1_any (p : Fp) (s : SS) (P : Nat → Prop) (v : RV) (r : RS) (x : CallV) (fs : List Pt) (w : World) (hX : StA w p s) (hI : Inv s) (hF : Room s 50) (h : RAt w P v r) (hR : Rel r s) (hP : ∀ k, P k → k < w.heap.size) (hPp : ∀ k, p.has k → P k) (hn : x.n = fs.length) (hk : kd x = 1) :
  Calls Tryz.prog 9 #[.pointer (some ⟨p.g, 0, none⟩), .agg ↑v, .agg ↑x] w (ClPost p (callF s x fs) P w) := by
 have HC : Hid (callF s x fs = s) := by show _ = _; unfold callF; rw [if_pos hk]
 have HI := hide hI
 have HF := hide hF
 have HR := hide hR
 have HN := hide hn
 clear hn
 obtain ⟨hrb, hcb, hob, hal, hsz⟩ := box3 w 38 47 38 ↑v ↑x ↑zrA
 go_enter Tryz.func9, Tryz.ntmps9
 go_upto_region 1 with fail
 generalize ((w.alloc (.cells ↑v 38)).alloc (.cells ↑x 47)).alloc (.cells ↑zrA 38) = Wb at *
 have y0 := hcb.cell_ 0 rfl
 have HX := hide (hX.below hal)
 have HH := hide (h.box hal)
 have HP2 : Hid (∀ k, PB P w.heap.size Wb.heap.size k → k < Wb.heap.size) := PB.lt hP hal.size
 have HSZ := hide hsz
 have HW := hide hal
 have HRB := hide hrb
 have HCB := hide hcb
 have HOB := hide hob
 have HPS := hide hPp
 have HPL := hide hP
 clear hX hI hF h hR hP hPp hrb hcb hob hal hsz
 go_upto_region 2 with fail
 have hk2 : (IntKind.u64.wrap x.kind).tmod 9 = 1 := hk
 rw [hk2]
 clear hk hk2 y0
 have hrb := HRB.out
 have hcb := HCB.out
 obtain ⟨c0, c1, c2, c3, c4, c5, c6, c7, c8⟩ := hrb.all9
 have y1 := hcb.cell_ 1 rfl
 have y2 := hcb.cell_ 2 rfl
 have y3 := hcb.cell_ 3 rfl
 have y4 := hcb.cell_ 4 rfl
 have y5 := hcb.cell_ 5 rfl
 have y6 := hcb.cell_ 6 rfl
 have y7 := hcb.cell_ 7 rfl
 have y8 := hcb.cell_ 8 (v := .slice x.A fs.length x.c) (by rw [← HN.out]; rfl)
 have y9 := hcb.cell_ 9 rfl
 have y10 := hcb.cell_ 10 rfl
 have y11 := hcb.cell_ 11 rfl
 have y12 := hcb.cell_ 12 rfl
 have y13 := hcb.cell_ 13 rfl
 have y14 := hcb.cell_ 14 rfl
 have y15 := hcb.cell_ 15 rfl
 have y16 := hcb.cell_ 16 rfl
 clear hrb hcb
 go_wp2_with fail
 refine (lots_any p s (needOf x) x.day Wb HX.out HI.out HF.out).mono ?_
 rintro e W1 ⟨A1, k1, rfl, hL1, hb1, _⟩
 clear c0 c1 c2 c3 c4 c5 c6 c7 c8 y1 y2 y3 y4 y5 y6 y7 y8 y9 y10 y11 y12 y13 y14 y15 y16
 have HB1 := hide (HW.out.trans (hb1.mono HW.out.size))
 have HX1 := hide (HX.out.below hb1)
 have HA1 := hide (HH.out.below hb1)
 have HRB1 := hide (HRB.out.below hb1 HRB.out.lt)
 have HCB1 := hide (HCB.out.below hb1 HCB.out.lt)
 have HOB1 := hide (HOB.out.below hb1 HOB.out.lt)
 have HP3 : Hid (∀ k, PB P w.heap.size Wb.heap.size k → k < W1.heap.size) := fun k hk => Nat.lt_of_lt_of_le (HP2.out k hk) hb1.size
 have hrb := HRB1.out
 have hcb := HCB1.out
 obtain ⟨c0, c1, c2, c3, c4, c5, c6, c7, c8⟩ := hrb.all9
 have y1 := hcb.cell_ 1 rfl
 have y2 := hcb.cell_ 2 rfl
 have y3 := hcb.cell_ 3 rfl
 have y4 := hcb.cell_ 4 rfl
 have y5 := hcb.cell_ 5 rfl
 have y6 := hcb.cell_ 6 rfl
 have y7 := hcb.cell_ 7 rfl
 have y8 := hcb.cell_ 8 (v := .slice x.A fs.length x.c) (by rw [← HN.out]; rfl)
 have y9 := hcb.cell_ 9 rfl
 have y10 := hcb.cell_ 10 rfl
 have y11 := hcb.cell_ 11 rfl
 have y12 := hcb.cell_ 12 rfl
 have y13 := hcb.cell_ 13 rfl
 have y14 := hcb.cell_ 14 rfl
 have y15 := hcb.cell_ 15 rfl
 have y16 := hcb.cell_ 16 rfl
 clear hrb hcb
 clear hb1
 go_wp2_with fail
 refine (rlots_any v r s _ (needOf x) x.day W1 HA1.out HR.out HI.out HF.out HP3.out).mono ?_
 rintro e W2 ⟨A2, k2, rfl, hL2, hb2, _⟩
 clear c0 c1 c2 c3 c4 c5 c6 c7 c8 y1 y2 y3 y4 y5 y6 y7 y8 y9 y10 y11 y12 y13 y14 y15 y16
 have HL1 := hide (Slc.on hL1 hb2)
 have HL2 := hide hL2
 have HB2 := hide (HB1.out.trans (hb2.mono HB1.out.size))
 have HX2 := hide (HX1.out.below hb2)
 have HA2 := hide (HA1.out.below hb2)
 have HRB2 := hide (HRB1.out.below hb2 HRB1.out.lt)
 have HO2 := hide (HOB1.out.below hb2 HOB1.out.lt)
 clear hb2
 have hll := lotsL_len (n := needOf x) (day := x.day) HF.out.few
 generalize lotsL s (needOf x) x.day = L at *
 generalize lotsE (needOf x) x.day = E at *
 clear hL1 hL2
 go_upto_region 8 with fail
 refine wp_region_callG (args := #[.slice A1 L.length k1, .slice A2 L.length k2]) (t := 38) (old := ↑zrA) (cells := ↑v) (fun _ => False) 10 7 8 9 [0, 1, 2, 3, 4, 5, 6] (.bool true) (.bool true) (fun w0 => Slc intEnc 1 w0 w0.heap.size A1 L ∧ Slc intEnc 1 w0 w0.heap.size A2 L) (fun w0 => True) (by kernel_rfl) (by kernel_rfl) (by kernel_rfl) (by kernel_rfl) (by decide) (by decide) (by decide) (fun h => h) ⟨HL1.out, HL2.out⟩ (fun w0 w1 hb h => ⟨Slc.on h.1 hb, Slc.on h.2 hb⟩) (fun w0 w1 hb h => trivial) (fun w0 w1 cs hb hc h => trivial) HO2.out rfl rfl rfl rfl rfl rfl rfl rfl rfl rfl (fun _ _ => rfl) (by kernel_rfl) rfl (by simp [Value.oneCell']) ?_
 apply Exists.intro
 refine ⟨fun W3 hc => ?_, ?_⟩
 ·have hx1 := HRB2.out.chg hc (by rintro (h | h); exact h; omega)
  obtain ⟨y_c0, y_c1, y_c2, y_c3, y_c4, y_c5, y_c6, y_c7, y_c8⟩ := hx1.sin9
  clear hx1
  dsimp only [pick, List.filterMap, List.getElem?_cons_succ, List.getElem?_cons_zero]
  repeat (go_big_quiet_step (fail))
  exact wpQuiet_nil rfl
 refine ⟨by simp [Act.eval], rfl, fun w1 hc1 hX1 => (sameInts_any A1 k1 L A2 k2 L w1 hX1.1 hX1.2 hll).mono fun e w3 h => ⟨by rw [h.1, eqL_same], trivial, .of_below h.2⟩, fun w1 => ?_, rfl, rfl, fun w9 hc9 _ hs9 => ?_⟩
 ·simp [execOp, Act.eval, Act.put, asBool]
 dsimp only [Act.put]
 simp only [List.setIfInBounds_toArray, List.set_cons_succ, List.set_cons_zero, List.drop_succ_cons, List.drop_zero]
 obtain ⟨v2, rfl⟩ := is_ v
 obtain ⟨c0, c1, c2, c3, c4, c5, c6, c7, c8⟩ := hs9.all9
 clear hs9
 go_wp2_with fail
 refine bodyPost_ret (v := .tuple #[.agg ↑v2, .bool true]) (by simp [results, Tryz.results9, go_sem, c0, c1, c2, c3, c4, c5, c6, c7, c8]) rfl ?_
 have hg9 : Chg (fun k => k = w.heap.size + 2) W2 w9 := hc9.mono fun k _ hk => by rcases hk with h | h; exact h.elim; exact h
 have hcw : Below w.heap.size w w9 := (HB2.out).trans (hg9.below1 HB2.out.size (by omega))
 refine ⟨p, v2, r, rfl, by rw [HC.out]; exact .mk1 (HX2.out.chg1 hg9 HO2.out (by decide) (by decide)) (.of_below hcw), ?_, by rw [HC.out]; exact HR.out⟩
 exact (HA2.out.chg (hg9.mono fun k _ hk => by subst hk; exact .inr ⟨by omega, by have := HSZ.out; omega⟩)).less fun k hk => by rcases hk with h | h; exact .inl h; exact .inl (HPS.out k h)
end Go.Proofs.YtehlbomkldnalaaGreat

/- A call of both stores: Take. -/
namespace Go.Proofs.YtehlbomkldnalaaGreat
open Go Go.RowKit
theorem takeL_len {s : SS} {n : Need} {day : Int} (h : Inv s) : (takeL s n day).length ≤ 1000000 := by
 cases hv : needB n day with
 | false => rw [(take_bad (s := s) hv).2.1]; exact Nat.zero_le _
 | true =>
  cases hl : lotsL s n day with
  | nil => rw [(take_short hv hl).2]; exact Nat.zero_le _
  | cons a t =>
   have h1 := (take_one h hv hl).2.1
   have := (needB_ok hv).1.c
   omega
set_option maxRecDepth 100000 in
set_option maxHeartbeats 4000000 in
theorem call2_any (p : Fp) (s : SS) (P : Nat → Prop) (v : RV) (r : RS) (x : CallV) (fs : List Pt) (w : World) (hX : StA w p s) (hI : Inv s) (hF : Room s 50) (h : RAt w P v r) (hR : Rel r s) (hP : ∀ k, P k → k < w.heap.size) (hPp : ∀ k, p.has k → P k) (hn : x.n = fs.length) (hk : kd x = 2) :
  Calls Tryz.prog 9 #[.pointer (some ⟨p.g, 0, none⟩), .agg ↑v, .agg ↑x] w (ClPost p (callF s x fs) P w) := by
 have HC0 : Hid (callF s x fs = takeS s (needOf x) x.day) := by show _ = _; unfold callF doF; rw [hk]; rfl
 have hll := takeL_len (n := needOf x) (day := x.day) hI
 have HC := HC0
 have HI := hide hI
 have HF := hide hF
 have HR := hide hR
 have HN := hide hn
 clear hn
 obtain ⟨hrb, hcb, hob, hal, hsz⟩ := box3 w 38 47 38 ↑v ↑x ↑zrA
 go_enter Tryz.func9, Tryz.ntmps9
 go_upto_region 1 with fail
 generalize ((w.alloc (.cells ↑v 38)).alloc (.cells ↑x 47)).alloc (.cells ↑zrA 38) = Wb at *
 have y0 := hcb.cell_ 0 rfl
 have HX := hide (hX.below hal)
 have HH := hide (h.box hal)
 have HP2 : Hid (∀ k, PB P w.heap.size Wb.heap.size k → k < Wb.heap.size) := PB.lt hP hal.size
 have HSZ := hide hsz
 have HW := hide hal
 have HRB := hide hrb
 have HCB := hide hcb
 have HOB := hide hob
 have HPS := hide hPp
 have HPL := hide hP
 clear hX hI hF h hR hP hPp hrb hcb hob hal hsz
 go_upto_region 2 with fail
 have hk2 : (IntKind.u64.wrap x.kind).tmod 9 = 2 := hk
 rw [hk2]
 clear hk hk2 y0
 have hrb := HRB.out
 have hcb := HCB.out
 obtain ⟨c0, c1, c2, c3, c4, c5, c6, c7, c8⟩ := hrb.all9
 have y1 := hcb.cell_ 1 rfl
 have y2 := hcb.cell_ 2 rfl
 have y3 := hcb.cell_ 3 rfl
 have y4 := hcb.cell_ 4 rfl
 have y5 := hcb.cell_ 5 rfl
 have y6 := hcb.cell_ 6 rfl
 have y7 := hcb.cell_ 7 rfl
 have y8 := hcb.cell_ 8 (v := .slice x.A fs.length x.c) (by rw [← HN.out]; rfl)
 have y9 := hcb.cell_ 9 rfl
 have y10 := hcb.cell_ 10 rfl
 have y11 := hcb.cell_ 11 rfl
 have y12 := hcb.cell_ 12 rfl
 have y13 := hcb.cell_ 13 rfl
 have y14 := hcb.cell_ 14 rfl
 have y15 := hcb.cell_ 15 rfl
 have y16 := hcb.cell_ 16 rfl
 clear hrb hcb
 go_wp2_with fail
 refine (take_any p s (needOf x) x.day Wb HX.out HI.out HF.out).mono ?_
 rintro e W1 ⟨p', A1, k1, rfl, hst, hL1, _⟩
 clear c0 c1 c2 c3 c4 c5 c6 c7 c8 y1 y2 y3 y4 y5 y6 y7 y8 y9 y10 y11 y12 y13 y14 y15 y16
 have HNG0 : ¬ p.has (w.heap.size + 2) := HX.out.nhas HOB.out (by decide)
 have HNC0 : ¬ p.has (w.heap.size + 1) := HX.out.nhas HCB.out (by decide)
 have HNR0 : ¬ p.has w.heap.size := HX.out.nhas HRB.out (by decide)
 have HST := hide hst
 have HA1 : Hid (RAt W1 (fun k => PB P w.heap.size Wb.heap.size k ∨ p'.has k) v r) := (HH.out.more (P' := fun k => PB P w.heap.size Wb.heap.size k ∨ p'.has k) fun k hk => by
  rcases hk with h | h
  ·exact .inl h
  ·rcases hst.sub k h with h | h
   ·exact .inl (.inl (HPS.out k h))
   ·exact .inr h).chg (hst.chg.mono fun k _ hk => .inl (.inl (HPS.out k hk)))
 have HP3 : Hid (∀ k, (PB P w.heap.size Wb.heap.size k ∨ p'.has k) → k < W1.heap.size) := fun k hk => by
  rcases hk with h | h
  ·exact Nat.lt_of_lt_of_le (HP2.out k h) hst.chg.size
  ·exact hst.st.lt h
 have HRB1 := hide (HRB.out.chg hst.chg HNR0)
 have HCB1 := hide (HCB.out.chg hst.chg HNC0)
 have HOB1 := hide (HOB.out.chg hst.chg HNG0)
 have hrb := HRB1.out
 have hcb := HCB1.out
 obtain ⟨c0, c1, c2, c3, c4, c5, c6, c7, c8⟩ := hrb.all9
 have y1 := hcb.cell_ 1 rfl
 have y2 := hcb.cell_ 2 rfl
 have y3 := hcb.cell_ 3 rfl
 have y4 := hcb.cell_ 4 rfl
 have y5 := hcb.cell_ 5 rfl
 have y6 := hcb.cell_ 6 rfl
 have y7 := hcb.cell_ 7 rfl
 have y8 := hcb.cell_ 8 (v := .slice x.A fs.length x.c) (by rw [← HN.out]; rfl)
 have y9 := hcb.cell_ 9 rfl
 have y10 := hcb.cell_ 10 rfl
 have y11 := hcb.cell_ 11 rfl
 have y12 := hcb.cell_ 12 rfl
 have y13 := hcb.cell_ 13 rfl
 have y14 := hcb.cell_ 14 rfl
 have y15 := hcb.cell_ 15 rfl
 have y16 := hcb.cell_ 16 rfl
 clear hrb hcb
 clear hst HNG0 HNC0 HNR0
 go_wp2_with fail
 refine (rtake_any v r s _ (needOf x) x.day W1 HA1.out HR.out HI.out HF.out HP3.out).mono ?_
 rintro e W2 ⟨v2, r2, A2, k2, rfl, hL2, hA2, hR2, hb2⟩
 clear c0 c1 c2 c3 c4 c5 c6 c7 c8 y1 y2 y3 y4 y5 y6 y7 y8 y9 y10 y11 y12 y13 y14 y15 y16
 have hbx := Blk.new W2 38 ↑v2
 have hal := (Below.refl W2.heap.size W2).alloc (Nat.le_refl _) (.cells ↑v2 38)
 go_upto_region 12 with fail
 obtain ⟨bx, hbxe⟩ := nm_ W2.heap.size
 rw [hbxe] at hbx ⊢
 have HB2 := hide (hb2.trans (hal.mono hb2.size))
 have HBG : Hid (Wb.heap.size ≤ bx) := by show _ ≤ _; have := hb2.size; have := HST.out.chg.size; omega
 have HA2 := hide (hA2.below hal)
 have HR2 := hide hR2
 have HL1 := hide (Slc.on hL1 HB2.out)
 have HL2 := hide (Slc.on hL2 hal)
 clear hA2 hR2 hbxe hb2 hL1 hL2
 generalize W2.alloc (.cells ↑v2 38) = W3 at *
 clear hal
 have HX2 := hide (HST.out.st.below HB2.out)
 have HO2 := hide (HOB1.out.below HB2.out HOB1.out.lt)
 have HBX := hide hbx
 clear hbx
 generalize takeL s (needOf x) x.day = L at *
 generalize takeE s (needOf x) x.day = E at *
 refine wp_region_callG (args := #[.slice A1 L.length k1, .slice A2 L.length k2]) (t := 38) (old := ↑zrA) (cells := ↑v2) (fun _ => False) 10 7 8 9 [0, 1, 2, 3, 4, 5, 6] (.bool true) (.bool true) (fun w0 => Slc Piece.enc 8 w0 w0.heap.size A1 L ∧ Slc Piece.enc 8 w0 w0.heap.size A2 L) (fun w0 => True) (by kernel_rfl) (by kernel_rfl) (by kernel_rfl) (by kernel_rfl) (by decide) (by decide) (by decide) (fun h => h) ⟨HL1.out, HL2.out⟩ (fun w0 w1 hb h => ⟨Slc.on h.1 hb, Slc.on h.2 hb⟩) (fun w0 w1 hb h => trivial) (fun w0 w1 cs hb hc h => trivial) HO2.out rfl rfl rfl rfl rfl rfl rfl rfl rfl rfl (fun _ _ => rfl) (by kernel_rfl) rfl (by simp [Value.oneCell']) ?_
 apply Exists.intro
 refine ⟨fun W4 hc => ?_, ?_⟩
 ·have hx1 := HBX.out.chg hc (by rintro (h | h); exact h; have := HBG.out; have := HSZ.out; omega)
  obtain ⟨y_c0, y_c1, y_c2, y_c3, y_c4, y_c5, y_c6, y_c7, y_c8⟩ := hx1.sin9
  clear hx1
  dsimp only [pick, List.filterMap, List.getElem?_cons_succ, List.getElem?_cons_zero]
  repeat (go_big_quiet_step (fail))
  exact wpQuiet_nil rfl
 refine ⟨by simp [Act.eval], rfl, fun w1 hc1 hX1 => (samePieces_yes A1 k1 A2 k2 L w1 hX1.1 hX1.2 hll).mono fun e w3 h => ⟨h.1, trivial, .of_below h.2⟩, fun w1 => ?_, rfl, rfl, fun w9 hc9 _ hs9 => ?_⟩
 ·simp [execOp, Act.eval, Act.put, asBool]
 dsimp only [Act.put]
 simp only [List.setIfInBounds_toArray, List.set_cons_succ, List.set_cons_zero, List.drop_succ_cons, List.drop_zero]
 obtain ⟨c0, c1, c2, c3, c4, c5, c6, c7, c8⟩ := hs9.all9
 clear hs9
 go_wp2_with fail
 refine bodyPost_ret (v := .tuple #[.agg ↑v2, .bool true]) (by simp [results, Tryz.results9, go_sem, c0, c1, c2, c3, c4, c5, c6, c7, c8]) rfl ?_
 have hg9 : Chg (fun k => k = w.heap.size + 2) W3 w9 := hc9.mono fun k _ hk => by rcases hk with h | h; exact h.elim; exact h
 have hcw := (((((Chg.of_below (S := fun k => p.has k ∨ k = w.heap.size + 2) HW.out).trans (HST.out.chg.mono fun k _ hk => .inl hk)).trans (.of_below HB2.out)).trans (hg9.mono fun k _ hk => .inr hk)).drop_ (by omega))
 refine ⟨p', v2, r2, rfl, by rw [HC.out]; exact ⟨HX2.out.chg1 hg9 HO2.out (by decide) (by decide), HST.out.g, fun k hk => by rcases HST.out.sub k hk with h | h; exact .inl h; exact .inr (Nat.le_trans HW.out.size h), hcw⟩, ?_, by rw [HC.out]; exact HR2.out⟩
 exact (HA2.out.chg (hg9.mono fun k _ hk => by subst hk; exact .inl (.inr ⟨by omega, by have := HSZ.out; omega⟩))).less fun k hk => by rcases hk with h | h; exact .inl (.inl h); exact .inr h
end Go.Proofs.YtehlbomkldnalaaGreat

/- The reference's Use: the walk. -/
namespace Go.Proofs.YtehlbomkldnalaaGreat
open Go Go.RowKit
def usedP (id what : Int) (y : Piece) : Piece := if y.id = id then { y with use := what } else y
def useL (id what : Int) (l : List Piece) (i : Nat) : List Piece := (l.take i).map (usedP id what) ++ l.drop i
theorem useL_zero (id what : Int) (l : List Piece) : useL id what l 0 = l := by unfold useL; simp
theorem useL_all (id what : Int) (l : List Piece) : useL id what l l.length = l.map (usedP id what) := by unfold useL; simp
theorem useL_len (id what : Int) (l : List Piece) (i : Nat) : (useL id what l i).length = l.length := by unfold useL; simp; omega
theorem useL_at {id what : Int} {l : List Piece} {i : Nat} {x : Piece} (h : l[i]? = some x) : (useL id what l i)[i]? = some x := by
 unfold useL
 have hi := (List.getElem?_eq_some_iff.1 h).1
 have e : ((l.take i).map (usedP id what)).length = i := by simp; omega
 rw [List.getElem?_append_right (by omega), e, Nat.sub_self, List.getElem?_drop]
 simpa using h
theorem useL_next {id what : Int} {l : List Piece} {i : Nat} {x : Piece} (h : l[i]? = some x) : useL id what l (i + 1) = (useL id what l i).set i (usedP id what x) := by
 have hi := (List.getElem?_eq_some_iff.1 h).1
 have hx := (List.getElem?_eq_some_iff.1 h).2
 unfold useL
 have e : ((l.take i).map (usedP id what)).length = i := by simp; omega
 rw [take_snoc h, List.map_append, List.set_append_right _ _ (by omega), e, Nat.sub_self, List.drop_eq_getElem_cons hi, hx, List.set_cons_zero]
 simp
theorem useL_skip {id what : Int} {l : List Piece} {i : Nat} {x : Piece} (h : l[i]? = some x) (hne : x.id ≠ id) : useL id what l (i + 1) = useL id what l i := by
 rw [useL_next h]
 have : usedP id what x = x := by unfold usedP; rw [if_neg hne]
 rw [this]
 have h2 := useL_at (id := id) (what := what) h
 apply List.ext_getElem?
 intro j
 rw [List.getElem?_set]
 split
 ·rename_i e; subst e
  split
  ·rw [h2]
  ·rename_i hh; rw [List.getElem?_eq_none (by omega)]
 ·rfl
theorem rel_use {r : RS} {s : SS} (h : Rel r s) (hi : Inv s) {p : Piece} {id what : Int} (hp : look s.pieces id = some p) : Rel { r with pieces := r.pieces.map (usedP id what) } { s with pieces := put s.pieces id { p with use := what } } := by
 have h1 := h.pc.upd hp (fun x hx => (hi.pc _ _ hx).1) (fun x => { x with use := what }) (fun x => rfl)
 exact ⟨h.ru, h.it, h1, h.lk, h.la, h.lo, h.re, h.nd, h.il, h.bd, h.ll, h.rl⟩
set_option maxRecDepth 100000 in
set_option maxHeartbeats 4000000 in
theorem ruse_any (v : RV) (r : RS) (s : SS) (P : Nat → Prop) (id what : Int) (w : World) (h : RAt w P v r) (hR : Rel r s) (hI : Inv s) (hF : Few s) (hP : ∀ k, P k → k < w.heap.size) :
  Calls Tryz.prog 24 #[.agg ↑v, id, what] w (RPost P (useS s id what) (useE s id what) w) := by
 have HR := hide hR
 have HI := hide hI
 have HLN := hide (hR.lens hI hF)
 have HPP := hide hP
 obtain ⟨hb, hr, hal, hsz⟩ := box2 w 38 38 ↑v ↑zrA
 have HW := hide hal
 go_enter Tryz.func24, Tryz.ntmps24
 go_upto_region 1 with fail
 generalize (w.alloc (.cells ↑v 38)).alloc (.cells ↑zrA 38) = W at *
 have HH := hide (h.box hal)
 have HP2 : Hid (∀ k, PB P w.heap.size W.heap.size k → k < W.heap.size) := PB.lt hP hal.size
 have HSZ := hide hsz
 have HB := hide hb
 have HRB := hide hr
 clear hR hI hF h hP hal hsz
 obtain ⟨c0, c1, c2, c3, c4, c5, c6, c7, c8⟩ := hb.all9
 clear hb hr
 cases hw : inB 1 what 1000000000 with
 | false =>
  have HE : Hid (useE s id what = 2) := by show _ = _; unfold useE; rw [hw]; rfl
  have HF : Hid (Rel r (useS s id what)) := by show Rel _ _; unfold useS; rw [HE.out, if_neg (by decide)]; exact HR.out
  go_wp2_with fail
  refine (from_is _ _ _ _ hw).mono ?_
  rintro e W' ⟨rfl, rfl⟩
  clear hw
  have hB2 := Below.refl W.heap.size W
  have hr := HRB.out
  have hBB := HW.out
  obtain ⟨v2, rfl⟩ := is_ v
  have hA3 := HH.out.below hB2
  go_wp2_with (refine wpList_store_blk rfl 38 _ _ rfl ↑v2 hr rfl rfl (by kernel_rfl) rfl (by simp [Value.oneCell']) ?_; intro W9 hr9 hc9; obtain ⟨q0, q1, q2, q3, q4, q5, q6, q7, q8⟩ := hr9.all9)
  refine bodyPost_ret (v := .tuple #[.agg ↑v2, .int .i64 2]) (by simp [results, Tryz.results24, go_sem, q0, q1, q2, q3, q4, q5, q6, q7, q8]) rfl ?_
  rw [HE.out]
  refine ⟨v2, _, rfl, (RAt.unbox hA3 hc9 ⟨by omega, by have := HSZ.out; omega⟩), HF.out, hBB.trans (hc9.below1 hBB.size (by omega))⟩
 | true =>
  go_wp2_with fail
  refine (from_is _ _ _ _ hw).mono ?_
  rintro e W' ⟨rfl, rfl⟩
  have HWH := hide hw
  clear hw
  cases hpt : look s.pieces id with
  | none =>
   have HE : Hid (useE s id what = 5) := by show _ = _; unfold useE; rw [HWH.out, if_pos rfl, hpt]
   have HF : Hid (Rel r (useS s id what)) := by show Rel _ _; unfold useS; rw [HE.out, if_neg (by decide)]; exact HR.out
   have HPO := hide ((HR.out.piece_is HI.out id).trans hpt)
   clear hpt
   go_wp2_with fail
   refine (rpiece_any v r _ id W HH.out HLN.out.2.1 none HPO.out).mono ?_
   rintro e W1 ⟨⟨y, rfl, hyy⟩, hb1⟩
   clear hyy
   go_upto_region 5 with fail
   have hal := (Below.refl W1.heap.size W1).alloc (Nat.le_refl _) (.cells ↑y 96)
   generalize W1.alloc (.cells ↑y 96) = W2 at *
   have hB2 := hb1.trans (hal.mono hb1.size)
   clear hb1 hal
   clear c0 c1 c2 c3 c4 c5 c6 c7 c8
   have hbx := HB.out.below hB2 HB.out.lt
   obtain ⟨c0, c1, c2, c3, c4, c5, c6, c7, c8⟩ := hbx.all9
   clear hbx
   have hr := HRB.out.below hB2 HRB.out.lt
   have hBB := HW.out.trans (hB2.mono HW.out.size)
   obtain ⟨v2, rfl⟩ := is_ v
   have hA3 := HH.out.below hB2
   go_wp2_with (refine wpList_store_blk rfl 38 _ _ rfl ↑v2 hr rfl rfl (by kernel_rfl) rfl (by simp [Value.oneCell']) ?_; intro W9 hr9 hc9; obtain ⟨q0, q1, q2, q3, q4, q5, q6, q7, q8⟩ := hr9.all9)
   refine bodyPost_ret (v := .tuple #[.agg ↑v2, .int .i64 5]) (by simp [results, Tryz.results24, go_sem, q0, q1, q2, q3, q4, q5, q6, q7, q8]) rfl ?_
   rw [HE.out]
   refine ⟨v2, _, rfl, (RAt.unbox hA3 hc9 ⟨by omega, by have := HSZ.out; omega⟩), HF.out, hBB.trans (hc9.below1 hBB.size (by omega))⟩
  | some p =>
   have HPT := hide hpt
   have HPO := hide ((HR.out.piece_is HI.out id).trans hpt)
   clear hpt
   go_wp2_with fail
   refine (rpiece_any v r _ id W HH.out HLN.out.2.1 (some p) HPO.out).mono ?_
   rintro e W1 ⟨⟨y, rfl, hyy⟩, hb1⟩
   obtain rfl := hyy p rfl
   clear hyy
   have hpx := Blk.new W1 96 ↑y
   obtain ⟨bx, hbxe⟩ := nm_ W1.heap.size
   go_upto_region 6 with fail
   have hal := (Below.refl W1.heap.size W1).alloc (Nat.le_refl _) (.cells ↑y 96)
   generalize W1.alloc (.cells ↑y 96) = W2 at *
   have hB2 := hb1.trans (hal.mono hb1.size)
   clear hb1 hal
   rw [hbxe] at hpx
   clear hbxe
   clear c0 c1 c2 c3 c4 c5 c6 c7 c8
   have hbx := HB.out.below hB2 HB.out.lt
   obtain ⟨c0, c1, c2, c3, c4, c5, c6, c7, c8⟩ := hbx.all9
   clear hbx
   have hr := HRB.out.below hB2 HRB.out.lt
   have hBB := HW.out.trans (hB2.mono HW.out.size)
   have z7 := hpx.cell_ 7 (v := y.use) rfl
   clear hpx
   by_cases hu : y.use = 0
   case neg =>
    have HE : Hid (useE s id what = 25) := by show _ = _; unfold useE; rw [HWH.out, if_pos rfl, HPT.out]; exact if_neg hu
    have HF : Hid (Rel r (useS s id what)) := by show Rel _ _; unfold useS; rw [HE.out, if_neg (by decide)]; exact HR.out
    obtain ⟨v2, rfl⟩ := is_ v
    have hA3 := HH.out.below hB2
    go_wp2_with (refine wpList_store_blk rfl 38 _ _ rfl ↑v2 hr rfl rfl (by kernel_rfl) rfl (by simp [Value.oneCell']) ?_; intro W9 hr9 hc9; obtain ⟨q0, q1, q2, q3, q4, q5, q6, q7, q8⟩ := hr9.all9)
    refine bodyPost_ret (v := .tuple #[.agg ↑v2, .int .i64 25]) (by simp [results, Tryz.results24, go_sem, q0, q1, q2, q3, q4, q5, q6, q7, q8]) rfl ?_
    rw [HE.out]
    refine ⟨v2, _, rfl, (RAt.unbox hA3 hc9 ⟨by omega, by have := HSZ.out; omega⟩), HF.out, hBB.trans (hc9.below1 hBB.size (by omega))⟩
   case pos =>
    have HE : Hid (useE s id what = 0) := by show _ = _; unfold useE; rw [HWH.out, if_pos rfl, HPT.out]; exact if_pos hu
    have HF : Hid (Rel { r with pieces := r.pieces.map (usedP id what) } (useS s id what)) := by
     show Rel _ _
     unfold useS
     rw [HE.out, if_pos rfl]
     unfold useFn
     rw [HPT.out]
     exact rel_use HR.out HI.out HPT.out
    have HHB := hide (HH.out.below hB2)
    have HKB := hide (HB.out.below hB2 HB.out.lt)
    have HRK := hide hr
    have HBB := hide hBB
    have HSZ2 : Hid (w.heap.size + 2 ≤ W2.heap.size) := by show _ ≤ _; have := hB2.size; have := HSZ.out; omega
    have HP3 : Hid (∀ k, PB P w.heap.size W.heap.size k → k < W2.heap.size) := fun k hk => Nat.lt_of_lt_of_le (HP2.out k hk) hB2.size
    have hne : r.pieces ≠ [] := by
     intro he
     have h1 := (HR.out.pc.m y).2 (by rw [(HI.out.pc _ _ HPT.out).1]; exact HPT.out)
     rw [he] at h1; cases h1
    obtain ⟨hs, hhs⟩ := nm_ r.pieces
    have HHS := hide hhs
    have HNE : Hid (hs ≠ []) := by show _ ≠ _; rw [← hhs]; exact hne
    have HNP : Hid (v.np = hs.length) := by show _ = _; rw [HH.out.np, hhs]
    have hnp : v.np ≤ 1000000 := by rw [HH.out.np]; exact HLN.out.2.1
    have HSL : Hid (Slc Piece.enc 8 W2 W2.heap.size v.Ap hs) := by have := HHB.out.pieces; rw [hhs] at this; exact this
    clear hr hBB hB2 hne hhs
    have c7' := (HKB.out.alloc (.cells #[] 96)).cell_ 7 (v := .slice v.Ap v.np v.cp) rfl
    go_upto_region 9 with (at_builtin; refine wpList_app_own (base := W2.heap.size) (f := Piece.enc) (xs := []) (ys := hs) (v := .slice (some ⟨W2.heap.size, 0, none⟩) 0 0) _ _ rfl rfl et_piece (Own.empty_ (Blk.new W2 96 #[]) (Nat.le_refl _)) rfl rfl (Slc.on HSL.out ((Below.refl W2.heap.size W2).alloc (Nat.le_refl _) _)) HNP.out.symm pce_len pce_one (by simp <;> omega) (by simp) ?_; intro v6 W6 hO6 hb6 hg6; obtain ⟨A6, k6, rfl, _⟩ := hO6.form pce_len)
    have hO7 : Own W6 W2.heap.size 96 8 Piece.enc (.slice A6 hs.length k6) hs := hO6
    obtain ⟨g, js, rfl, hg, hgb⟩ := own_blkF hO7 HNE.out
    have hB6 : Below W2.heap.size W2 W6 := ((Below.refl W2.heap.size W2).alloc (Nat.le_refl _) (.cells #[] 96)).trans hb6
    have HO7 := hide hO7
    have HGB := hide hgb
    have hnl : hs.length ≤ 1000000 := by rw [← HNP.out]; exact hnp
    clear c0 c1 c2 c3 c4 c5 c6 c7 c8
    clear z7 c7' hO6 hO7 hb6 hg6 hu
    have hgb0 : Blk W6 g 96 ((useL id what hs 0).flatMap Piece.enc ++ js).toArray := by rw [useL_zero]; exact hgb
    clear hgb
    go_upto_region 10 with fail
    go_loopw [11] (fun z wr => ∃ (i : Nat), z = .int .i64 i ∧ i ≤ hs.length ∧ Blk wr g 96 ((useL id what hs i).flatMap Piece.enc ++ js).toArray ∧ Below W2.heap.size W2 wr) (fun z _ => hs.length - (intOf z).toNat)
    case atStart => exact ⟨0, rfl, Nat.zero_le _, hgb0, hB6⟩
    case round =>
     clear hgb0 hB6
     obtain ⟨Wc, rfl⟩ := is_ wr
     obtain ⟨i, rfl, hi, hgb, hB⟩ := hrel
     by_cases hlt : i < hs.length
     ·obtain ⟨x, hx⟩ : ∃ x, hs[i]? = some x := ⟨_, List.getElem?_eq_getElem hlt⟩
      have d0 : Wc.cell? ⟨g, i * 8, none⟩ = some (.int .i64 x.id) := hgb.cell_ (i * 8) (blkF_get pce_len (useL_at hx) (j := 0) (v := x.id) rfl)
      have hii : (i : Int) < (hs.length : Int) := by omega
      have ei := wsuc i (by omega)
      by_cases h1 : x.id = id
      ·have HIL : Hid (i * 8 + 7 < ((useL id what hs i).flatMap Piece.enc ++ js).toArray.size) := by
        show _ < _
        rw [List.size_toArray, List.length_append, flat_len pce_len, useL_len]
        omega
       have HST : Hid (((useL id what hs i).flatMap Piece.enc ++ js).toArray.setIfInBounds (i * 8 + 7) (.int .i64 what) = ((useL id what hs (i + 1)).flatMap Piece.enc ++ js).toArray) := by
        show _ = _
        rw [List.setIfInBounds_toArray, useL_next hx, ← flat_set (f := Piece.enc) (n := 8) (j := 7) (v := what) pce_len (useL_at hx) (by omega)]
        unfold usedP
        rw [if_pos h1]
        rfl
       clear hx
       go_wp2_with (refine wpList_store_at rfl 3 _ _ rfl (.int .i64 what) hgb rfl rfl (by kernel_rfl) rfl HIL.out rfl ?_; intro W5 hb5 hc5)
       rw [HST.out] at hb5
       have hB5 := hB.trans (hc5.below1 (B := W2.heap.size) hB.size hg)
       clear hgb hc5 hB d0 h1
       go_roundw
       case rel => exact ⟨i + 1, by go_num, by omega, hb5, hB5⟩
       case measure => simp [intOf]; omega
      ·have HST : Hid (useL id what hs (i + 1) = useL id what hs i) := useL_skip hx h1
       clear hx
       go_wp2_with fail
       clear d0
       go_roundw
       case rel => exact ⟨i + 1, by go_num, by omega, by rw [HST.out]; exact hgb, hB⟩
       case measure => simp [intOf]; omega
     ·obtain rfl : i = hs.length := by omega
      rw [useL_all] at hgb
      have hO9 := own_putF (l' := hs.map (usedP id what)) pce_len HO7.out (by simp) HGB.out hgb
      obtain ⟨ls, hls⟩ := nm_ (hs.map (usedP id what))
      have HLS := hide hls
      have hlen : ls.length = hs.length := by rw [← hls]; simp
      have HLEN := hide hlen
      rw [hls] at hO9 hgb
      have HO9 := hide hO9
      have hs1 := HKB.out.below hB HKB.out.lt
      have hr1 := HRK.out.below hB HRK.out.lt
      have HBW := hide hB
      clear hgb hB hls hlen hO9
      go_upto_region 15 with (refine wpList_store_at rfl 35 _ _ rfl (.slice (some ⟨g, 0, none⟩) hs.length k6) hs1 rfl rfl (by kernel_rfl) rfl (by simp) rfl ?_; intro W5 hs5 hc5)
      obtain ⟨v3, hv3⟩ : ∃ y : RV, y = { v with Ap := some ⟨g, 0, none⟩, np := hs.length, cp := k6 } := ⟨_, rfl⟩
      have hA2 : RAt Wc (PB P w.heap.size W.heap.size) v3 { r with pieces := ls } := by
       rw [hv3]
       exact HHB.out.put_pieces HBW.out HP3.out HLEN.out.symm (HO9.out.slc pce_len) (fun ad ha => by injection ha with ha; rw [← ha]; exact hg)
      have hs5' : Blk W5 w.heap.size 38 ↑v3 := by rw [hv3]; exact hs5
      have hA := hA2.chg (hc5.mono fun k _ hk => by subst hk; exact .inr ⟨Nat.le_refl _, by have := HSZ.out; omega⟩)
      have hr := hr1.chg1 hc5 (by omega)
      have hBB : Below w.heap.size w W5 := (HBB.out.trans (HBW.out.mono HBB.out.size)).trans (hc5.below1 (by have := HBB.out.size; have := HBW.out.size; omega) (Nat.le_refl _))
      have HRL : Hid ({ r with pieces := r.pieces.map (usedP id what) } = ({ r with pieces := ls } : RS)) := by show _ = _; rw [← HLS.out, HHS.out]
      rw [HRL.out] at HF
      try dsimp only [Act.put]
      clear hs1 hr1 hs5 hA2 hc5 hv3
      obtain ⟨v2, rfl⟩ := is_ v3
      have c0 := hs5'.cell_ 0 (v := v2.mw) rfl
      have c1 := hs5'.cell_ 1 (v := v2.ml) rfl
      have c2 := hs5'.cell_ 2 (v := v2.l0) rfl
      have c3 := hs5'.cell_ 3 (v := v2.l1) rfl
      have c4 := hs5'.cell_ 4 (v := v2.l2) rfl
      have c5 := hs5'.cell_ 5 (v := .slice v2.Ar v2.nr v2.cr) rfl
      have c6 := hs5'.cell_ 6 (v := .slice v2.Ai v2.ni v2.ci) rfl
      have c7 := hs5'.cell_ 7 (v := .slice v2.Ap v2.np v2.cp) rfl
      have c8 := hs5'.cell_ 8 (v := .slice v2.Al v2.nl v2.cl) rfl
      clear hs5'
      go_wp2_with (refine wpList_store_blk rfl 38 _ _ rfl ↑v2 hr rfl rfl (by kernel_rfl) rfl (by simp [Value.oneCell']) ?_; intro W9 hr9 hc9; obtain ⟨q0, q1, q2, q3, q4, q5, q6, q7, q8⟩ := hr9.all9)
      refine bodyPost_ret (v := .tuple #[.agg ↑v2, .int .i64 0]) (by simp [results, Tryz.results24, go_sem, q0, q1, q2, q3, q4, q5, q6, q7, q8]) rfl ?_
      rw [HE.out]
      refine ⟨v2, _, rfl, (RAt.unbox hA hc9 ⟨by omega, by have := HSZ.out; omega⟩), HF.out, hBB.trans (hc9.below1 hBB.size (by omega))⟩
end Go.Proofs.YtehlbomkldnalaaGreat

/- A call of both stores: Use. -/
namespace Go.Proofs.YtehlbomkldnalaaGreat
open Go Go.RowKit
set_option maxRecDepth 100000 in
set_option maxHeartbeats 4000000 in
theorem call3_any (p : Fp) (s : SS) (P : Nat → Prop) (v : RV) (r : RS) (x : CallV) (fs : List Pt) (w : World) (hX : StA w p s) (hI : Inv s) (hF : Room s 50) (h : RAt w P v r) (hR : Rel r s) (hP : ∀ k, P k → k < w.heap.size) (hPp : ∀ k, p.has k → P k) (hn : x.n = fs.length) (hk : kd x = 3) :
  Calls Tryz.prog 9 #[.pointer (some ⟨p.g, 0, none⟩), .agg ↑v, .agg ↑x] w (ClPost p (callF s x fs) P w) := by
 have HC : Hid (callF s x fs = useS s x.cid x.what) := by show _ = _; unfold callF doF; rw [hk]; rfl
 have HI := hide hI
 have HF := hide hF
 have HR := hide hR
 have HN := hide hn
 clear hn
 obtain ⟨hrb, hcb, hob, hal, hsz⟩ := box3 w 38 47 38 ↑v ↑x ↑zrA
 go_enter Tryz.func9, Tryz.ntmps9
 go_upto_region 1 with fail
 generalize ((w.alloc (.cells ↑v 38)).alloc (.cells ↑x 47)).alloc (.cells ↑zrA 38) = Wb at *
 have y0 := hcb.cell_ 0 rfl
 have HX := hide (hX.below hal)
 have HH := hide (h.box hal)
 have HP2 : Hid (∀ k, PB P w.heap.size Wb.heap.size k → k < Wb.heap.size) := PB.lt hP hal.size
 have HSZ := hide hsz
 have HW := hide hal
 have HRB := hide hrb
 have HCB := hide hcb
 have HOB := hide hob
 have HPS := hide hPp
 have HPL := hide hP
 clear hX hI hF h hR hP hPp hrb hcb hob hal hsz
 go_upto_region 2 with fail
 have hk2 : (IntKind.u64.wrap x.kind).tmod 9 = 3 := hk
 rw [hk2]
 clear hk hk2 y0
 have hrb := HRB.out
 have hcb := HCB.out
 obtain ⟨c0, c1, c2, c3, c4, c5, c6, c7, c8⟩ := hrb.all9
 have y1 := hcb.cell_ 1 rfl
 have y2 := hcb.cell_ 2 rfl
 have y3 := hcb.cell_ 3 rfl
 have y4 := hcb.cell_ 4 rfl
 have y5 := hcb.cell_ 5 rfl
 have y6 := hcb.cell_ 6 rfl
 have y7 := hcb.cell_ 7 rfl
 have y8 : Wb.cell? ⟨w.heap.size + 1, 8, none⟩ = some (.slice x.A fs.length x.c) := by rw [← HN.out]; exact hcb.cell_ 8 rfl
 have y9 := hcb.cell_ 9 rfl
 have y10 := hcb.cell_ 10 rfl
 have y11 := hcb.cell_ 11 rfl
 have y12 := hcb.cell_ 12 rfl
 have y13 := hcb.cell_ 13 rfl
 have y14 := hcb.cell_ 14 rfl
 have y15 := hcb.cell_ 15 rfl
 have y16 := hcb.cell_ 16 rfl
 clear hrb hcb
 go_wp2_with fail
 refine (ruse_any v r s _ x.cid x.what Wb HH.out HR.out HI.out HF.out.few HP2.out).mono ?_
 rintro e W1 ⟨v2, r2, rfl, hA2, hR2, hb2⟩
 clear c0 c1 c2 c3 c4 c5 c6 c7 c8 y1 y2 y3 y4 y5 y6 y7 y8 y9 y10 y11 y12 y13 y14 y15 y16
 have hbx := Blk.new W1 38 ↑v2
 have hal := (Below.refl W1.heap.size W1).alloc (Nat.le_refl _) (.cells ↑v2 38)
 go_upto_region 15 with fail
 obtain ⟨bx, hbxe⟩ := nm_ W1.heap.size
 rw [hbxe] at hbx ⊢
 have hB2 := hb2.trans (hal.mono hb2.size)
 have HBG : Hid (Wb.heap.size ≤ bx) := by show _ ≤ _; have := hb2.size; omega
 have HA2 := hide (hA2.below hal)
 have HR2 := hide hR2
 clear hA2 hR2 hbxe hb2
 generalize W1.alloc (.cells ↑v2 38) = W2 at *
 clear hal
 have HX2 := hide (HX.out.below hB2)
 have HO2 := hide (HOB.out.below hB2 HOB.out.lt)
 have HC2 := hide (HCB.out.below hB2 HCB.out.lt)
 have HBX := hide hbx
 have HNG : Hid (¬ p.has (w.heap.size + 2)) := HX2.out.nhas HO2.out (by decide)
 have HNC : Hid (¬ p.has (w.heap.size + 1)) := HX2.out.nhas HC2.out (by decide)
 have HNB : Hid (¬ p.has bx) := HX2.out.nhas HBX.out (by decide)
 have HB2 := hide hB2
 clear hbx hB2
 refine wp_region_callA (args := #[.pointer (some ⟨p.g, 0, none⟩), x.cid, x.what]) (t := 38) (old := ↑zrA) (cells := ↑v2) p.has 10 6 8 9 [0, 1, 2, 3, 4, 5, 7] (.int .i64 (useE s x.cid x.what)) (.bool true) (fun w0 => StA w0 p s) (fun w0 => StA w0 p (useS s x.cid x.what)) (by kernel_rfl) (by kernel_rfl) (by kernel_rfl) (by kernel_rfl) (by decide) (by decide) (by decide) HNG.out HX2.out (fun w0 w1 hb h => h.below hb) (fun w0 w1 hb h => h.below hb) (fun w0 w1 cs hb hc h => h.chg1 hc hb (by decide) (by decide)) HO2.out rfl rfl rfl rfl rfl rfl rfl rfl rfl rfl rfl (fun _ _ => rfl) (by kernel_rfl) rfl (by simp [Value.oneCell']) ?_
 apply Exists.intro
 refine ⟨fun W3 hc => ?_, ?_⟩
 ·have hx1 := HBX.out.chg hc (by rintro (h | h); exact HNB.out h; have := HBG.out; have := HSZ.out; omega)
  obtain ⟨y_c0, y_c1, y_c2, y_c3, y_c4, y_c5, y_c6, y_c7, y_c8⟩ := hx1.sin9
  have hx2 := HC2.out.chg hc (by rintro (h | h); exact HNC.out h; omega)
  have y_k15 := Since.cell (hx2.cell_ 15 (v := x.cid) rfl)
  have y_k16 := Since.cell (hx2.cell_ 16 (v := x.what) rfl)
  clear hx1 hx2
  dsimp only [pick, List.filterMap, List.getElem?_cons_succ, List.getElem?_cons_zero]
  repeat (go_big_quiet_step (fail))
  exact wpQuiet_nil rfl
 refine ⟨by simp [Act.eval], fun w1 hc1 hX1 => (use_any p s x.cid x.what w1 hX1 HI.out HF.out.few).mono fun e w3 h => h, fun w1 => ?_, rfl, rfl, fun w9 hc9 hX9 hs9 => ?_⟩
 ·simp [execOp, Act.eval, Act.put, eqI, eqGuard]
 dsimp only [Act.put]
 simp only [List.setIfInBounds_toArray, List.set_cons_succ, List.set_cons_zero, List.drop_succ_cons, List.drop_zero]
 obtain ⟨c0, c1, c2, c3, c4, c5, c6, c7, c8⟩ := hs9.all9
 clear hs9
 go_wp2_with fail
 refine bodyPost_ret (v := .tuple #[.agg ↑v2, .bool true]) (by simp [results, Tryz.results9, go_sem, c0, c1, c2, c3, c4, c5, c6, c7, c8]) rfl ?_
 have hcw := (((Chg.of_below (S := fun k => p.has k ∨ k = w.heap.size + 2) (HW.out.trans (HB2.out.mono HW.out.size))).trans hc9).drop_ (by omega))
 refine ⟨p, v2, r2, rfl, by rw [HC.out]; exact .mk1 hX9 hcw, ?_, by rw [HC.out]; exact HR2.out⟩
 exact (HA2.out.chg (hc9.mono fun k _ hk => by rcases hk with h | h; exact .inl (HPS.out k h); exact .inr ⟨by omega, by have := HSZ.out; omega⟩)).less fun k hk => by rcases hk with h | h; exact .inl h; exact .inl (HPS.out k h)
end Go.Proofs.YtehlbomkldnalaaGreat

/- A call of both stores: Return. -/
namespace Go.Proofs.YtehlbomkldnalaaGreat
open Go Go.RowKit
set_option maxRecDepth 100000 in
set_option maxHeartbeats 4000000 in
theorem call4_any (p : Fp) (s : SS) (P : Nat → Prop) (v : RV) (r : RS) (x : CallV) (fs : List Pt) (w : World) (hX : StA w p s) (hI : Inv s) (hF : Room s 50) (h : RAt w P v r) (hR : Rel r s) (hP : ∀ k, P k → k < w.heap.size) (hPp : ∀ k, p.has k → P k) (hn : x.n = fs.length) (hk : kd x = 4) :
  Calls Tryz.prog 9 #[.pointer (some ⟨p.g, 0, none⟩), .agg ↑v, .agg ↑x] w (ClPost p (callF s x fs) P w) := by
 have HC : Hid (callF s x fs = backS s x.cid) := by show _ = _; unfold callF doF; rw [hk]; rfl
 have HI := hide hI
 have HF := hide hF
 have HR := hide hR
 have HN := hide hn
 clear hn
 obtain ⟨hrb, hcb, hob, hal, hsz⟩ := box3 w 38 47 38 ↑v ↑x ↑zrA
 go_enter Tryz.func9, Tryz.ntmps9
 go_upto_region 1 with fail
 generalize ((w.alloc (.cells ↑v 38)).alloc (.cells ↑x 47)).alloc (.cells ↑zrA 38) = Wb at *
 have y0 := hcb.cell_ 0 rfl
 have HX := hide (hX.below hal)
 have HH := hide (h.box hal)
 have HP2 : Hid (∀ k, PB P w.heap.size Wb.heap.size k → k < Wb.heap.size) := PB.lt hP hal.size
 have HSZ := hide hsz
 have HW := hide hal
 have HRB := hide hrb
 have HCB := hide hcb
 have HOB := hide hob
 have HPS := hide hPp
 have HPL := hide hP
 clear hX hI hF h hR hP hPp hrb hcb hob hal hsz
 go_upto_region 2 with fail
 have hk2 : (IntKind.u64.wrap x.kind).tmod 9 = 4 := hk
 rw [hk2]
 clear hk hk2 y0
 have hrb := HRB.out
 have hcb := HCB.out
 obtain ⟨c0, c1, c2, c3, c4, c5, c6, c7, c8⟩ := hrb.all9
 have y1 := hcb.cell_ 1 rfl
 have y2 := hcb.cell_ 2 rfl
 have y3 := hcb.cell_ 3 rfl
 have y4 := hcb.cell_ 4 rfl
 have y5 := hcb.cell_ 5 rfl
 have y6 := hcb.cell_ 6 rfl
 have y7 := hcb.cell_ 7 rfl
 have y8 : Wb.cell? ⟨w.heap.size + 1, 8, none⟩ = some (.slice x.A fs.length x.c) := by rw [← HN.out]; exact hcb.cell_ 8 rfl
 have y9 := hcb.cell_ 9 rfl
 have y10 := hcb.cell_ 10 rfl
 have y11 := hcb.cell_ 11 rfl
 have y12 := hcb.cell_ 12 rfl
 have y13 := hcb.cell_ 13 rfl
 have y14 := hcb.cell_ 14 rfl
 have y15 := hcb.cell_ 15 rfl
 have y16 := hcb.cell_ 16 rfl
 clear hrb hcb
 go_wp2_with fail
 refine (rreturn_any v r s _ x.cid Wb HH.out HR.out HI.out HF.out.few HP2.out).mono ?_
 rintro e W1 ⟨v2, r2, rfl, hA2, hR2, hb2⟩
 clear c0 c1 c2 c3 c4 c5 c6 c7 c8 y1 y2 y3 y4 y5 y6 y7 y8 y9 y10 y11 y12 y13 y14 y15 y16
 have hbx := Blk.new W1 38 ↑v2
 have hal := (Below.refl W1.heap.size W1).alloc (Nat.le_refl _) (.cells ↑v2 38)
 go_upto_region 18 with fail
 obtain ⟨bx, hbxe⟩ := nm_ W1.heap.size
 rw [hbxe] at hbx ⊢
 have hB2 := hb2.trans (hal.mono hb2.size)
 have HBG : Hid (Wb.heap.size ≤ bx) := by show _ ≤ _; have := hb2.size; omega
 have HA2 := hide (hA2.below hal)
 have HR2 := hide hR2
 clear hA2 hR2 hbxe hb2
 generalize W1.alloc (.cells ↑v2 38) = W2 at *
 clear hal
 have HX2 := hide (HX.out.below hB2)
 have HO2 := hide (HOB.out.below hB2 HOB.out.lt)
 have HC2 := hide (HCB.out.below hB2 HCB.out.lt)
 have HBX := hide hbx
 have HNG : Hid (¬ p.has (w.heap.size + 2)) := HX2.out.nhas HO2.out (by decide)
 have HNC : Hid (¬ p.has (w.heap.size + 1)) := HX2.out.nhas HC2.out (by decide)
 have HNB : Hid (¬ p.has bx) := HX2.out.nhas HBX.out (by decide)
 have HB2 := hide hB2
 clear hbx hB2
 refine wp_region_callA (args := #[.pointer (some ⟨p.g, 0, none⟩), x.cid]) (t := 38) (old := ↑zrA) (cells := ↑v2) p.has 8 4 6 7 [0, 1, 2, 3, 5] (.int .i64 (backE s x.cid)) (.bool true) (fun w0 => StA w0 p s) (fun w0 => StA w0 p (backS s x.cid)) (by kernel_rfl) (by kernel_rfl) (by kernel_rfl) (by kernel_rfl) (by decide) (by decide) (by decide) HNG.out HX2.out (fun w0 w1 hb h => h.below hb) (fun w0 w1 hb h => h.below hb) (fun w0 w1 cs hb hc h => h.chg1 hc hb (by decide) (by decide)) HO2.out rfl rfl rfl rfl rfl rfl rfl rfl rfl rfl rfl (fun _ _ => rfl) (by kernel_rfl) rfl (by simp [Value.oneCell']) ?_
 apply Exists.intro
 refine ⟨fun W3 hc => ?_, ?_⟩
 ·have hx1 := HBX.out.chg hc (by rintro (h | h); exact HNB.out h; have := HBG.out; have := HSZ.out; omega)
  obtain ⟨y_c0, y_c1, y_c2, y_c3, y_c4, y_c5, y_c6, y_c7, y_c8⟩ := hx1.sin9
  have hx2 := HC2.out.chg hc (by rintro (h | h); exact HNC.out h; omega)
  have y_k15 := Since.cell (hx2.cell_ 15 (v := x.cid) rfl)
  clear hx1 hx2
  dsimp only [pick, List.filterMap, List.getElem?_cons_succ, List.getElem?_cons_zero]
  repeat (go_big_quiet_step (fail))
  exact wpQuiet_nil rfl
 refine ⟨by simp [Act.eval], fun w1 hc1 hX1 => (return_any p s x.cid w1 hX1 HI.out HF.out.few).mono fun e w3 h => h, fun w1 => ?_, rfl, rfl, fun w9 hc9 hX9 hs9 => ?_⟩
 ·simp [execOp, Act.eval, Act.put, eqI, eqGuard]
 dsimp only [Act.put]
 simp only [List.setIfInBounds_toArray, List.set_cons_succ, List.set_cons_zero, List.drop_succ_cons, List.drop_zero]
 obtain ⟨c0, c1, c2, c3, c4, c5, c6, c7, c8⟩ := hs9.all9
 clear hs9
 go_wp2_with fail
 refine bodyPost_ret (v := .tuple #[.agg ↑v2, .bool true]) (by simp [results, Tryz.results9, go_sem, c0, c1, c2, c3, c4, c5, c6, c7, c8]) rfl ?_
 have hcw := (((Chg.of_below (S := fun k => p.has k ∨ k = w.heap.size + 2) (HW.out.trans (HB2.out.mono HW.out.size))).trans hc9).drop_ (by omega))
 refine ⟨p, v2, r2, rfl, by rw [HC.out]; exact .mk1 hX9 hcw, ?_, by rw [HC.out]; exact HR2.out⟩
 exact (HA2.out.chg (hc9.mono fun k _ hk => by rcases hk with h | h; exact .inl (HPS.out k h); exact .inr ⟨by omega, by have := HSZ.out; omega⟩)).less fun k hk => by rcases hk with h | h; exact .inl h; exact .inl (HPS.out k h)
end Go.Proofs.YtehlbomkldnalaaGreat

/- A call of both stores: Scrap. -/
namespace Go.Proofs.YtehlbomkldnalaaGreat
open Go Go.RowKit
set_option maxRecDepth 100000 in
set_option maxHeartbeats 4000000 in
theorem call5_any (p : Fp) (s : SS) (P : Nat → Prop) (v : RV) (r : RS) (x : CallV) (fs : List Pt) (w : World) (hX : StA w p s) (hI : Inv s) (hF : Room s 50) (h : RAt w P v r) (hR : Rel r s) (hP : ∀ k, P k → k < w.heap.size) (hPp : ∀ k, p.has k → P k) (hn : x.n = fs.length) (hk : kd x = 5) :
  Calls Tryz.prog 9 #[.pointer (some ⟨p.g, 0, none⟩), .agg ↑v, .agg ↑x] w (ClPost p (callF s x fs) P w) := by
 have HC : Hid (callF s x fs = scrapF s x.cid) := by show _ = _; unfold callF doF; rw [hk]; rfl
 have HI := hide hI
 have HF := hide hF
 have HR := hide hR
 have HN := hide hn
 clear hn
 obtain ⟨hrb, hcb, hob, hal, hsz⟩ := box3 w 38 47 38 ↑v ↑x ↑zrA
 go_enter Tryz.func9, Tryz.ntmps9
 go_upto_region 1 with fail
 generalize ((w.alloc (.cells ↑v 38)).alloc (.cells ↑x 47)).alloc (.cells ↑zrA 38) = Wb at *
 have y0 := hcb.cell_ 0 rfl
 have HX := hide (hX.below hal)
 have HH := hide (h.box hal)
 have HP2 : Hid (∀ k, PB P w.heap.size Wb.heap.size k → k < Wb.heap.size) := PB.lt hP hal.size
 have HSZ := hide hsz
 have HW := hide hal
 have HRB := hide hrb
 have HCB := hide hcb
 have HOB := hide hob
 have HPS := hide hPp
 have HPL := hide hP
 clear hX hI hF h hR hP hPp hrb hcb hob hal hsz
 go_upto_region 2 with fail
 have hk2 : (IntKind.u64.wrap x.kind).tmod 9 = 5 := hk
 rw [hk2]
 clear hk hk2 y0
 have hrb := HRB.out
 have hcb := HCB.out
 obtain ⟨c0, c1, c2, c3, c4, c5, c6, c7, c8⟩ := hrb.all9
 have y1 := hcb.cell_ 1 rfl
 have y2 := hcb.cell_ 2 rfl
 have y3 := hcb.cell_ 3 rfl
 have y4 := hcb.cell_ 4 rfl
 have y5 := hcb.cell_ 5 rfl
 have y6 := hcb.cell_ 6 rfl
 have y7 := hcb.cell_ 7 rfl
 have y8 : Wb.cell? ⟨w.heap.size + 1, 8, none⟩ = some (.slice x.A fs.length x.c) := by rw [← HN.out]; exact hcb.cell_ 8 rfl
 have y9 := hcb.cell_ 9 rfl
 have y10 := hcb.cell_ 10 rfl
 have y11 := hcb.cell_ 11 rfl
 have y12 := hcb.cell_ 12 rfl
 have y13 := hcb.cell_ 13 rfl
 have y14 := hcb.cell_ 14 rfl
 have y15 := hcb.cell_ 15 rfl
 have y16 := hcb.cell_ 16 rfl
 clear hrb hcb
 go_wp2_with fail
 refine (rscrap_any v r s _ x.cid Wb HH.out HR.out HI.out HF.out.few HP2.out).mono ?_
 rintro e W1 ⟨v2, r2, rfl, hA2, hR2, hb2⟩
 clear c0 c1 c2 c3 c4 c5 c6 c7 c8 y1 y2 y3 y4 y5 y6 y7 y8 y9 y10 y11 y12 y13 y14 y15 y16
 have hbx := Blk.new W1 38 ↑v2
 have hal := (Below.refl W1.heap.size W1).alloc (Nat.le_refl _) (.cells ↑v2 38)
 go_upto_region 21 with fail
 obtain ⟨bx, hbxe⟩ := nm_ W1.heap.size
 rw [hbxe] at hbx ⊢
 have hB2 := hb2.trans (hal.mono hb2.size)
 have HBG : Hid (Wb.heap.size ≤ bx) := by show _ ≤ _; have := hb2.size; omega
 have HA2 := hide (hA2.below hal)
 have HR2 := hide hR2
 clear hA2 hR2 hbxe hb2
 generalize W1.alloc (.cells ↑v2 38) = W2 at *
 clear hal
 have HX2 := hide (HX.out.below hB2)
 have HO2 := hide (HOB.out.below hB2 HOB.out.lt)
 have HC2 := hide (HCB.out.below hB2 HCB.out.lt)
 have HBX := hide hbx
 have HNG : Hid (¬ p.has (w.heap.size + 2)) := HX2.out.nhas HO2.out (by decide)
 have HNC : Hid (¬ p.has (w.heap.size + 1)) := HX2.out.nhas HC2.out (by decide)
 have HNB : Hid (¬ p.has bx) := HX2.out.nhas HBX.out (by decide)
 have HB2 := hide hB2
 clear hbx hB2
 refine wp_region_callA (args := #[.pointer (some ⟨p.g, 0, none⟩), x.cid]) (t := 38) (old := ↑zrA) (cells := ↑v2) p.has 8 4 6 7 [0, 1, 2, 3, 5] (.int .i64 (scrapE s x.cid)) (.bool true) (fun w0 => StA w0 p s) (fun w0 => StA w0 p (scrapF s x.cid)) (by kernel_rfl) (by kernel_rfl) (by kernel_rfl) (by kernel_rfl) (by decide) (by decide) (by decide) HNG.out HX2.out (fun w0 w1 hb h => h.below hb) (fun w0 w1 hb h => h.below hb) (fun w0 w1 cs hb hc h => h.chg1 hc hb (by decide) (by decide)) HO2.out rfl rfl rfl rfl rfl rfl rfl rfl rfl rfl rfl (fun _ _ => rfl) (by kernel_rfl) rfl (by simp [Value.oneCell']) ?_
 apply Exists.intro
 refine ⟨fun W3 hc => ?_, ?_⟩
 ·have hx1 := HBX.out.chg hc (by rintro (h | h); exact HNB.out h; have := HBG.out; have := HSZ.out; omega)
  obtain ⟨y_c0, y_c1, y_c2, y_c3, y_c4, y_c5, y_c6, y_c7, y_c8⟩ := hx1.sin9
  have hx2 := HC2.out.chg hc (by rintro (h | h); exact HNC.out h; omega)
  have y_k15 := Since.cell (hx2.cell_ 15 (v := x.cid) rfl)
  clear hx1 hx2
  dsimp only [pick, List.filterMap, List.getElem?_cons_succ, List.getElem?_cons_zero]
  repeat (go_big_quiet_step (fail))
  exact wpQuiet_nil rfl
 refine ⟨by simp [Act.eval], fun w1 hc1 hX1 => (scrap_any p s x.cid w1 hX1 HI.out HF.out.few).mono fun e w3 h => h, fun w1 => ?_, rfl, rfl, fun w9 hc9 hX9 hs9 => ?_⟩
 ·simp [execOp, Act.eval, Act.put, eqI, eqGuard]
 dsimp only [Act.put]
 simp only [List.setIfInBounds_toArray, List.set_cons_succ, List.set_cons_zero, List.drop_succ_cons, List.drop_zero]
 obtain ⟨c0, c1, c2, c3, c4, c5, c6, c7, c8⟩ := hs9.all9
 clear hs9
 go_wp2_with fail
 refine bodyPost_ret (v := .tuple #[.agg ↑v2, .bool true]) (by simp [results, Tryz.results9, go_sem, c0, c1, c2, c3, c4, c5, c6, c7, c8]) rfl ?_
 have hcw := (((Chg.of_below (S := fun k => p.has k ∨ k = w.heap.size + 2) (HW.out.trans (HB2.out.mono HW.out.size))).trans hc9).drop_ (by omega))
 refine ⟨p, v2, r2, rfl, by rw [HC.out]; exact .mk1 hX9 hcw, ?_, by rw [HC.out]; exact HR2.out⟩
 exact (HA2.out.chg (hc9.mono fun k _ hk => by rcases hk with h | h; exact .inl (HPS.out k h); exact .inr ⟨by omega, by have := HSZ.out; omega⟩)).less fun k hk => by rcases hk with h | h; exact .inl h; exact .inl (HPS.out k h)
end Go.Proofs.YtehlbomkldnalaaGreat

/- A call of both stores: Expire. -/
namespace Go.Proofs.YtehlbomkldnalaaGreat
open Go Go.RowKit
def ExpCase (s s' : SS) (day : Int) (L : List Int) (E : Int) : Prop := (inB 0 day 100000 = false ∧ L = [] ∧ E = 2 ∧ s' = s) ∨ (inB 0 day 100000 = true ∧ L = expL s day ∧ E = 0 ∧ s' = expS s day)
theorem exps_ex {r : RS} {s : SS} (hR : Rel r s) (hi : Inv s) (hF : Few s) (day : Int) : ∃ (s' : SS) (L : List Int) (E : Int), ExpCase s s' day L E ∧ L.length ≤ 1000000 ∧ expireS s day = s' := by
 cases h : inB 0 day 100000 with
 | false => exact ⟨s, [], 2, .inl ⟨h, rfl, rfl, rfl⟩, Nat.zero_le _, by unfold expireS; rw [h]; rfl⟩
 | true =>
  refine ⟨expS s day, expL s day, 0, .inr ⟨h, rfl, rfl, rfl⟩, ?_, by unfold expireS; rw [h]; rfl⟩
  unfold expL
  rw [List.length_map]
  refine Nat.le_trans (List.length_filter_le _ _) ?_
  rw [← hR.items hi, hR.ilen hi]
  exact hF.it
theorem expires_any (p : Fp) (s : SS) (day : Int) (w : World) (hX : StA w p s) (hI : Inv s) (hF : Few s) {s' : SS} {L : List Int} {E : Int} (h : ExpCase s s' day L E) :
  Calls Tryz.prog 30 #[.pointer (some ⟨p.g, 0, none⟩), day] w fun e w' => ∃ p' A c, e = .returned (.tuple #[.slice A L.length c, E]) ∧ Stp w p s' w' p' ∧ Slc intEnc 1 w' w'.heap.size A L := by
 rcases h with ⟨h1, rfl, rfl, rfl⟩ | ⟨h1, rfl, rfl, rfl⟩
 ·refine (expire_bad p _ day w hX h1).mono fun e w' ⟨h2, h3⟩ => ?_
  subst h3
  exact ⟨p, none, 0, h2, .mk1 hX (Chg.refl _ _), Slc.nil_⟩
 ·exact (expire_any p s day w hX hI hF h1).mono fun e w' ⟨A, c, h2, h3, _, h4, h5⟩ => ⟨p, A, c, h2, .mk1 h4 h5, h3⟩
theorem rexpires_any (v : RV) (r : RS) (s : SS) (P : Nat → Prop) (day : Int) (w : World) (h : RAt w P v r) (hR : Rel r s) (hI : Inv s) (hF : Few s) (hP : ∀ k, P k → k < w.heap.size) {s' : SS} {L : List Int} {E : Int} (hc : ExpCase s s' day L E) :
  Calls Tryz.prog 31 #[.agg ↑v, day] w fun e w' => ∃ (v2 : RV) (r2 : RS) (A : Option Addr) (c : Nat), e = .returned (.tuple #[.agg ↑v2, .slice A L.length c, E]) ∧ Slc intEnc 1 w' w'.heap.size A L ∧ RAt w' P v2 r2 ∧ Rel r2 s' ∧ Below w.heap.size w w' := by
 rcases hc with ⟨h1, rfl, rfl, rfl⟩ | ⟨h1, rfl, rfl, rfl⟩
 ·exact (rexpire_bad v r P day w h h1).mono fun e w' ⟨h2, h3⟩ => ⟨v, r, none, 0, h2, Slc.nil_, h.below h3, hR, h3⟩
 ·exact rexpire_any v r s P day w h hR hI hF hP h1
set_option maxRecDepth 100000 in
set_option maxHeartbeats 4000000 in
theorem call6_any (p : Fp) (s : SS) (P : Nat → Prop) (v : RV) (r : RS) (x : CallV) (fs : List Pt) (w : World) (hX : StA w p s) (hI : Inv s) (hF : Room s 50) (h : RAt w P v r) (hR : Rel r s) (hP : ∀ k, P k → k < w.heap.size) (hPp : ∀ k, p.has k → P k) (hn : x.n = fs.length) (hk : kd x = 6) :
  Calls Tryz.prog 9 #[.pointer (some ⟨p.g, 0, none⟩), .agg ↑v, .agg ↑x] w (ClPost p (callF s x fs) P w) := by
 have HC0 : Hid (callF s x fs = expireS s x.day) := by show _ = _; unfold callF doF; rw [hk]; rfl
 obtain ⟨s', L, E, hcase, hll, hse⟩ := exps_ex hR hI hF.few x.day
 have HC : Hid (callF s x fs = s') := by show _ = _; rw [HC0.out, hse]
 have HCA := hide hcase
 clear hcase hse
 have HI := hide hI
 have HF := hide hF
 have HR := hide hR
 have HN := hide hn
 clear hn
 obtain ⟨hrb, hcb, hob, hal, hsz⟩ := box3 w 38 47 38 ↑v ↑x ↑zrA
 go_enter Tryz.func9, Tryz.ntmps9
 go_upto_region 1 with fail
 generalize ((w.alloc (.cells ↑v 38)).alloc (.cells ↑x 47)).alloc (.cells ↑zrA 38) = Wb at *
 have y0 := hcb.cell_ 0 rfl
 have HX := hide (hX.below hal)
 have HH := hide (h.box hal)
 have HP2 : Hid (∀ k, PB P w.heap.size Wb.heap.size k → k < Wb.heap.size) := PB.lt hP hal.size
 have HSZ := hide hsz
 have HW := hide hal
 have HRB := hide hrb
 have HCB := hide hcb
 have HOB := hide hob
 have HPS := hide hPp
 have HPL := hide hP
 clear hX hI hF h hR hP hPp hrb hcb hob hal hsz
 go_upto_region 2 with fail
 have hk2 : (IntKind.u64.wrap x.kind).tmod 9 = 6 := hk
 rw [hk2]
 clear hk hk2 y0
 have hrb := HRB.out
 have hcb := HCB.out
 obtain ⟨c0, c1, c2, c3, c4, c5, c6, c7, c8⟩ := hrb.all9
 have y1 := hcb.cell_ 1 rfl
 have y2 := hcb.cell_ 2 rfl
 have y3 := hcb.cell_ 3 rfl
 have y4 := hcb.cell_ 4 rfl
 have y5 := hcb.cell_ 5 rfl
 have y6 := hcb.cell_ 6 rfl
 have y7 := hcb.cell_ 7 rfl
 have y8 := hcb.cell_ 8 (v := .slice x.A fs.length x.c) (by rw [← HN.out]; rfl)
 have y9 := hcb.cell_ 9 rfl
 have y10 := hcb.cell_ 10 rfl
 have y11 := hcb.cell_ 11 rfl
 have y12 := hcb.cell_ 12 rfl
 have y13 := hcb.cell_ 13 rfl
 have y14 := hcb.cell_ 14 rfl
 have y15 := hcb.cell_ 15 rfl
 have y16 := hcb.cell_ 16 rfl
 clear hrb hcb
 go_wp2_with fail
 refine (expires_any p s x.day Wb HX.out HI.out HF.out.few HCA.out).mono ?_
 rintro e W1 ⟨p', A1, k1, rfl, hst, hL1⟩
 clear c0 c1 c2 c3 c4 c5 c6 c7 c8 y1 y2 y3 y4 y5 y6 y7 y8 y9 y10 y11 y12 y13 y14 y15 y16
 have HNG0 : ¬ p.has (w.heap.size + 2) := HX.out.nhas HOB.out (by decide)
 have HNC0 : ¬ p.has (w.heap.size + 1) := HX.out.nhas HCB.out (by decide)
 have HNR0 : ¬ p.has w.heap.size := HX.out.nhas HRB.out (by decide)
 have HST := hide hst
 have HA1 : Hid (RAt W1 (fun k => PB P w.heap.size Wb.heap.size k ∨ p'.has k) v r) := (HH.out.more (P' := fun k => PB P w.heap.size Wb.heap.size k ∨ p'.has k) fun k hk => by
  rcases hk with h | h
  ·exact .inl h
  ·rcases hst.sub k h with h | h
   ·exact .inl (.inl (HPS.out k h))
   ·exact .inr h).chg (hst.chg.mono fun k _ hk => .inl (.inl (HPS.out k hk)))
 have HP3 : Hid (∀ k, (PB P w.heap.size Wb.heap.size k ∨ p'.has k) → k < W1.heap.size) := fun k hk => by
  rcases hk with h | h
  ·exact Nat.lt_of_lt_of_le (HP2.out k h) hst.chg.size
  ·exact hst.st.lt h
 have HRB1 := hide (HRB.out.chg hst.chg HNR0)
 have HCB1 := hide (HCB.out.chg hst.chg HNC0)
 have HOB1 := hide (HOB.out.chg hst.chg HNG0)
 have hrb := HRB1.out
 have hcb := HCB1.out
 obtain ⟨c0, c1, c2, c3, c4, c5, c6, c7, c8⟩ := hrb.all9
 have y1 := hcb.cell_ 1 rfl
 have y2 := hcb.cell_ 2 rfl
 have y3 := hcb.cell_ 3 rfl
 have y4 := hcb.cell_ 4 rfl
 have y5 := hcb.cell_ 5 rfl
 have y6 := hcb.cell_ 6 rfl
 have y7 := hcb.cell_ 7 rfl
 have y8 := hcb.cell_ 8 (v := .slice x.A fs.length x.c) (by rw [← HN.out]; rfl)
 have y9 := hcb.cell_ 9 rfl
 have y10 := hcb.cell_ 10 rfl
 have y11 := hcb.cell_ 11 rfl
 have y12 := hcb.cell_ 12 rfl
 have y13 := hcb.cell_ 13 rfl
 have y14 := hcb.cell_ 14 rfl
 have y15 := hcb.cell_ 15 rfl
 have y16 := hcb.cell_ 16 rfl
 clear hrb hcb
 clear hst HNG0 HNC0 HNR0
 go_wp2_with fail
 refine (rexpires_any v r s _ x.day W1 HA1.out HR.out HI.out HF.out.few HP3.out HCA.out).mono ?_
 rintro e W2 ⟨v2, r2, A2, k2, rfl, hL2, hA2, hR2, hb2⟩
 clear c0 c1 c2 c3 c4 c5 c6 c7 c8 y1 y2 y3 y4 y5 y6 y7 y8 y9 y10 y11 y12 y13 y14 y15 y16
 have hbx := Blk.new W2 38 ↑v2
 have hal := (Below.refl W2.heap.size W2).alloc (Nat.le_refl _) (.cells ↑v2 38)
 go_upto_region 25 with fail
 obtain ⟨bx, hbxe⟩ := nm_ W2.heap.size
 rw [hbxe] at hbx ⊢
 have HB2 := hide (hb2.trans (hal.mono hb2.size))
 have HBG : Hid (Wb.heap.size ≤ bx) := by show _ ≤ _; have := hb2.size; have := HST.out.chg.size; omega
 have HA2 := hide (hA2.below hal)
 have HR2 := hide hR2
 have HL1 := hide (Slc.on hL1 HB2.out)
 have HL2 := hide (Slc.on hL2 hal)
 clear hA2 hR2 hbxe hb2 hL1 hL2
 generalize W2.alloc (.cells ↑v2 38) = W3 at *
 clear hal
 have HX2 := hide (HST.out.st.below HB2.out)
 have HO2 := hide (HOB1.out.below HB2.out HOB1.out.lt)
 have HBX := hide hbx
 clear hbx
 refine wp_region_callG (args := #[.slice A1 L.length k1, .slice A2 L.length k2]) (t := 38) (old := ↑zrA) (cells := ↑v2) (fun _ => False) 10 7 8 9 [0, 1, 2, 3, 4, 5, 6] (.bool true) (.bool true) (fun w0 => Slc intEnc 1 w0 w0.heap.size A1 L ∧ Slc intEnc 1 w0 w0.heap.size A2 L) (fun w0 => True) (by kernel_rfl) (by kernel_rfl) (by kernel_rfl) (by kernel_rfl) (by decide) (by decide) (by decide) (fun h => h) ⟨HL1.out, HL2.out⟩ (fun w0 w1 hb h => ⟨Slc.on h.1 hb, Slc.on h.2 hb⟩) (fun w0 w1 hb h => trivial) (fun w0 w1 cs hb hc h => trivial) HO2.out rfl rfl rfl rfl rfl rfl rfl rfl rfl rfl (fun _ _ => rfl) (by kernel_rfl) rfl (by simp [Value.oneCell']) ?_
 apply Exists.intro
 refine ⟨fun W4 hc => ?_, ?_⟩
 ·have hx1 := HBX.out.chg hc (by rintro (h | h); exact h; have := HBG.out; have := HSZ.out; omega)
  obtain ⟨y_c0, y_c1, y_c2, y_c3, y_c4, y_c5, y_c6, y_c7, y_c8⟩ := hx1.sin9
  clear hx1
  dsimp only [pick, List.filterMap, List.getElem?_cons_succ, List.getElem?_cons_zero]
  repeat (go_big_quiet_step (fail))
  exact wpQuiet_nil rfl
 refine ⟨by simp [Act.eval], rfl, fun w1 hc1 hX1 => (sameInts_any A1 k1 L A2 k2 L w1 hX1.1 hX1.2 hll).mono fun e w3 h => ⟨by rw [h.1, eqL_same], trivial, .of_below h.2⟩, fun w1 => ?_, rfl, rfl, fun w9 hc9 _ hs9 => ?_⟩
 ·simp [execOp, Act.eval, Act.put, asBool]
 dsimp only [Act.put]
 simp only [List.setIfInBounds_toArray, List.set_cons_succ, List.set_cons_zero, List.drop_succ_cons, List.drop_zero]
 obtain ⟨c0, c1, c2, c3, c4, c5, c6, c7, c8⟩ := hs9.all9
 clear hs9
 go_wp2_with fail
 refine bodyPost_ret (v := .tuple #[.agg ↑v2, .bool true]) (by simp [results, Tryz.results9, go_sem, c0, c1, c2, c3, c4, c5, c6, c7, c8]) rfl ?_
 have hg9 : Chg (fun k => k = w.heap.size + 2) W3 w9 := hc9.mono fun k _ hk => by rcases hk with h | h; exact h.elim; exact h
 have hcw := (((((Chg.of_below (S := fun k => p.has k ∨ k = w.heap.size + 2) HW.out).trans (HST.out.chg.mono fun k _ hk => .inl hk)).trans (.of_below HB2.out)).trans (hg9.mono fun k _ hk => .inr hk)).drop_ (by omega))
 refine ⟨p', v2, r2, rfl, by rw [HC.out]; exact ⟨HX2.out.chg1 hg9 HO2.out (by decide) (by decide), HST.out.g, fun k hk => by rcases HST.out.sub k hk with h | h; exact .inl h; exact .inr (Nat.le_trans HW.out.size h), hcw⟩, ?_, by rw [HC.out]; exact HR2.out⟩
 exact (HA2.out.chg (hg9.mono fun k _ hk => by subst hk; exact .inl (.inr ⟨by omega, by have := HSZ.out; omega⟩))).less fun k hk => by rcases hk with h | h; exact .inl (.inl h); exact .inr h
end Go.Proofs.YtehlbomkldnalaaGreat

/- A call of both stores: Recall. -/
namespace Go.Proofs.YtehlbomkldnalaaGreat
open Go Go.RowKit
def RecCase (s s' : SS) (lot : Int) (L : List Int) (E : Int) : Prop := (look s.lots lot = none ∧ L = [] ∧ E = 5 ∧ s' = s) ∨ ((∃ kn, look s.lots lot = some kn) ∧ L = usesF (recU s lot) ∧ E = 0 ∧ s' = rec2 s lot)
theorem recs_ex {r : RS} {s : SS} (hR : Rel r s) (hi : Inv s) (hF : Few s) (lot : Int) : ∃ (s' : SS) (L : List Int) (E : Int), RecCase s s' lot L E ∧ L.length ≤ 1000000 ∧ recallS s lot = s' := by
 cases h : look s.lots lot with
 | none => exact ⟨s, [], 5, .inl ⟨h, rfl, rfl, rfl⟩, Nat.zero_le _, by unfold recallS; rw [h]; rfl⟩
 | some kn =>
  refine ⟨rec2 s lot, usesF (recU s lot), 0, .inr ⟨⟨kn, h⟩, rfl, rfl, rfl⟩, ?_, by unfold recallS; rw [h]; rfl⟩
  rw [← uses_is hR hi]
  refine Nat.le_trans (usesR_len _ _) ?_
  rw [hR.plen hi]
  exact hF.pc
theorem recalls_any (p : Fp) (s : SS) (lot : Int) (w : World) (hX : StA w p s) (hI : Inv s) (hF : Few s) {s' : SS} {L : List Int} {E : Int} (h : RecCase s s' lot L E) :
  Calls Tryz.prog 32 #[.pointer (some ⟨p.g, 0, none⟩), lot] w fun e w' => ∃ p' A c, e = .returned (.tuple #[.slice A L.length c, E]) ∧ Stp w p s' w' p' ∧ Slc intEnc 1 w' w'.heap.size A L := by
 rcases h with ⟨h1, rfl, rfl, rfl⟩ | ⟨⟨kn, h1⟩, rfl, rfl, rfl⟩
 ·exact (recall_bad p _ lot w hX h1).mono fun e w' ⟨h2, h3⟩ => ⟨p, none, 0, h2, .mk1 (hX.below h3) (.of_below h3), Slc.nil_⟩
 ·exact (recall_any p s lot w hX hI hF h1).mono fun e w' ⟨A, c, h2, h3, _, h4, h5⟩ => ⟨p, A, c, h2, .mk1 h4 h5, h3⟩
theorem rrecalls_any (v : RV) (r : RS) (s : SS) (P : Nat → Prop) (lot : Int) (w : World) (h : RAt w P v r) (hR : Rel r s) (hI : Inv s) (hF : Few s) (hP : ∀ k, P k → k < w.heap.size) {s' : SS} {L : List Int} {E : Int} (hc : RecCase s s' lot L E) :
  Calls Tryz.prog 33 #[.agg ↑v, lot] w fun e w' => ∃ (v2 : RV) (r2 : RS) (A : Option Addr) (c : Nat), e = .returned (.tuple #[.agg ↑v2, .slice A L.length c, E]) ∧ Slc intEnc 1 w' w'.heap.size A L ∧ RAt w' P v2 r2 ∧ Rel r2 s' ∧ Below w.heap.size w w' := by
 rcases hc with ⟨h1, rfl, rfl, rfl⟩ | ⟨⟨kn, h1⟩, rfl, rfl, rfl⟩
 ·exact (rrecall_bad v r _ P lot w h hR hI hF hP h1).mono fun e w' ⟨h2, h3⟩ => ⟨v, r, none, 0, h2, Slc.nil_, h.below h3, hR, h3⟩
 ·exact rrecall_any v r s P lot w h hR hI hF hP h1
set_option maxRecDepth 100000 in
set_option maxHeartbeats 4000000 in
theorem call7_any (p : Fp) (s : SS) (P : Nat → Prop) (v : RV) (r : RS) (x : CallV) (fs : List Pt) (w : World) (hX : StA w p s) (hI : Inv s) (hF : Room s 50) (h : RAt w P v r) (hR : Rel r s) (hP : ∀ k, P k → k < w.heap.size) (hPp : ∀ k, p.has k → P k) (hn : x.n = fs.length) (hk : kd x = 7) :
  Calls Tryz.prog 9 #[.pointer (some ⟨p.g, 0, none⟩), .agg ↑v, .agg ↑x] w (ClPost p (callF s x fs) P w) := by
 have HC0 : Hid (callF s x fs = recallS s x.what) := by show _ = _; unfold callF doF; rw [hk]; rfl
 obtain ⟨s', L, E, hcase, hll, hse⟩ := recs_ex hR hI hF.few x.what
 have HC : Hid (callF s x fs = s') := by show _ = _; rw [HC0.out, hse]
 have HCA := hide hcase
 clear hcase hse
 have HI := hide hI
 have HF := hide hF
 have HR := hide hR
 have HN := hide hn
 clear hn
 obtain ⟨hrb, hcb, hob, hal, hsz⟩ := box3 w 38 47 38 ↑v ↑x ↑zrA
 go_enter Tryz.func9, Tryz.ntmps9
 go_upto_region 1 with fail
 generalize ((w.alloc (.cells ↑v 38)).alloc (.cells ↑x 47)).alloc (.cells ↑zrA 38) = Wb at *
 have y0 := hcb.cell_ 0 rfl
 have HX := hide (hX.below hal)
 have HH := hide (h.box hal)
 have HP2 : Hid (∀ k, PB P w.heap.size Wb.heap.size k → k < Wb.heap.size) := PB.lt hP hal.size
 have HSZ := hide hsz
 have HW := hide hal
 have HRB := hide hrb
 have HCB := hide hcb
 have HOB := hide hob
 have HPS := hide hPp
 have HPL := hide hP
 clear hX hI hF h hR hP hPp hrb hcb hob hal hsz
 go_upto_region 2 with fail
 have hk2 : (IntKind.u64.wrap x.kind).tmod 9 = 7 := hk
 rw [hk2]
 clear hk hk2 y0
 have hrb := HRB.out
 have hcb := HCB.out
 obtain ⟨c0, c1, c2, c3, c4, c5, c6, c7, c8⟩ := hrb.all9
 have y1 := hcb.cell_ 1 rfl
 have y2 := hcb.cell_ 2 rfl
 have y3 := hcb.cell_ 3 rfl
 have y4 := hcb.cell_ 4 rfl
 have y5 := hcb.cell_ 5 rfl
 have y6 := hcb.cell_ 6 rfl
 have y7 := hcb.cell_ 7 rfl
 have y8 := hcb.cell_ 8 (v := .slice x.A fs.length x.c) (by rw [← HN.out]; rfl)
 have y9 := hcb.cell_ 9 rfl
 have y10 := hcb.cell_ 10 rfl
 have y11 := hcb.cell_ 11 rfl
 have y12 := hcb.cell_ 12 rfl
 have y13 := hcb.cell_ 13 rfl
 have y14 := hcb.cell_ 14 rfl
 have y15 := hcb.cell_ 15 rfl
 have y16 := hcb.cell_ 16 rfl
 clear hrb hcb
 go_wp2_with fail
 refine (recalls_any p s x.what Wb HX.out HI.out HF.out.few HCA.out).mono ?_
 rintro e W1 ⟨p', A1, k1, rfl, hst, hL1⟩
 clear c0 c1 c2 c3 c4 c5 c6 c7 c8 y1 y2 y3 y4 y5 y6 y7 y8 y9 y10 y11 y12 y13 y14 y15 y16
 have HNG0 : ¬ p.has (w.heap.size + 2) := HX.out.nhas HOB.out (by decide)
 have HNC0 : ¬ p.has (w.heap.size + 1) := HX.out.nhas HCB.out (by decide)
 have HNR0 : ¬ p.has w.heap.size := HX.out.nhas HRB.out (by decide)
 have HST := hide hst
 have HA1 : Hid (RAt W1 (fun k => PB P w.heap.size Wb.heap.size k ∨ p'.has k) v r) := (HH.out.more (P' := fun k => PB P w.heap.size Wb.heap.size k ∨ p'.has k) fun k hk => by
  rcases hk with h | h
  ·exact .inl h
  ·rcases hst.sub k h with h | h
   ·exact .inl (.inl (HPS.out k h))
   ·exact .inr h).chg (hst.chg.mono fun k _ hk => .inl (.inl (HPS.out k hk)))
 have HP3 : Hid (∀ k, (PB P w.heap.size Wb.heap.size k ∨ p'.has k) → k < W1.heap.size) := fun k hk => by
  rcases hk with h | h
  ·exact Nat.lt_of_lt_of_le (HP2.out k h) hst.chg.size
  ·exact hst.st.lt h
 have HRB1 := hide (HRB.out.chg hst.chg HNR0)
 have HCB1 := hide (HCB.out.chg hst.chg HNC0)
 have HOB1 := hide (HOB.out.chg hst.chg HNG0)
 have hrb := HRB1.out
 have hcb := HCB1.out
 obtain ⟨c0, c1, c2, c3, c4, c5, c6, c7, c8⟩ := hrb.all9
 have y1 := hcb.cell_ 1 rfl
 have y2 := hcb.cell_ 2 rfl
 have y3 := hcb.cell_ 3 rfl
 have y4 := hcb.cell_ 4 rfl
 have y5 := hcb.cell_ 5 rfl
 have y6 := hcb.cell_ 6 rfl
 have y7 := hcb.cell_ 7 rfl
 have y8 := hcb.cell_ 8 (v := .slice x.A fs.length x.c) (by rw [← HN.out]; rfl)
 have y9 := hcb.cell_ 9 rfl
 have y10 := hcb.cell_ 10 rfl
 have y11 := hcb.cell_ 11 rfl
 have y12 := hcb.cell_ 12 rfl
 have y13 := hcb.cell_ 13 rfl
 have y14 := hcb.cell_ 14 rfl
 have y15 := hcb.cell_ 15 rfl
 have y16 := hcb.cell_ 16 rfl
 clear hrb hcb
 clear hst HNG0 HNC0 HNR0
 go_wp2_with fail
 refine (rrecalls_any v r s _ x.what W1 HA1.out HR.out HI.out HF.out.few HP3.out HCA.out).mono ?_
 rintro e W2 ⟨v2, r2, A2, k2, rfl, hL2, hA2, hR2, hb2⟩
 clear c0 c1 c2 c3 c4 c5 c6 c7 c8 y1 y2 y3 y4 y5 y6 y7 y8 y9 y10 y11 y12 y13 y14 y15 y16
 have hbx := Blk.new W2 38 ↑v2
 have hal := (Below.refl W2.heap.size W2).alloc (Nat.le_refl _) (.cells ↑v2 38)
 go_upto_region 29 with fail
 obtain ⟨bx, hbxe⟩ := nm_ W2.heap.size
 rw [hbxe] at hbx ⊢
 have HB2 := hide (hb2.trans (hal.mono hb2.size))
 have HBG : Hid (Wb.heap.size ≤ bx) := by show _ ≤ _; have := hb2.size; have := HST.out.chg.size; omega
 have HA2 := hide (hA2.below hal)
 have HR2 := hide hR2
 have HL1 := hide (Slc.on hL1 HB2.out)
 have HL2 := hide (Slc.on hL2 hal)
 clear hA2 hR2 hbxe hb2 hL1 hL2
 generalize W2.alloc (.cells ↑v2 38) = W3 at *
 clear hal
 have HX2 := hide (HST.out.st.below HB2.out)
 have HO2 := hide (HOB1.out.below HB2.out HOB1.out.lt)
 have HBX := hide hbx
 clear hbx
 refine wp_region_callG (args := #[.slice A1 L.length k1, .slice A2 L.length k2]) (t := 38) (old := ↑zrA) (cells := ↑v2) (fun _ => False) 10 7 8 9 [0, 1, 2, 3, 4, 5, 6] (.bool true) (.bool true) (fun w0 => Slc intEnc 1 w0 w0.heap.size A1 L ∧ Slc intEnc 1 w0 w0.heap.size A2 L) (fun w0 => True) (by kernel_rfl) (by kernel_rfl) (by kernel_rfl) (by kernel_rfl) (by decide) (by decide) (by decide) (fun h => h) ⟨HL1.out, HL2.out⟩ (fun w0 w1 hb h => ⟨Slc.on h.1 hb, Slc.on h.2 hb⟩) (fun w0 w1 hb h => trivial) (fun w0 w1 cs hb hc h => trivial) HO2.out rfl rfl rfl rfl rfl rfl rfl rfl rfl rfl (fun _ _ => rfl) (by kernel_rfl) rfl (by simp [Value.oneCell']) ?_
 apply Exists.intro
 refine ⟨fun W4 hc => ?_, ?_⟩
 ·have hx1 := HBX.out.chg hc (by rintro (h | h); exact h; have := HBG.out; have := HSZ.out; omega)
  obtain ⟨y_c0, y_c1, y_c2, y_c3, y_c4, y_c5, y_c6, y_c7, y_c8⟩ := hx1.sin9
  clear hx1
  dsimp only [pick, List.filterMap, List.getElem?_cons_succ, List.getElem?_cons_zero]
  repeat (go_big_quiet_step (fail))
  exact wpQuiet_nil rfl
 refine ⟨by simp [Act.eval], rfl, fun w1 hc1 hX1 => (sameInts_any A1 k1 L A2 k2 L w1 hX1.1 hX1.2 hll).mono fun e w3 h => ⟨by rw [h.1, eqL_same], trivial, .of_below h.2⟩, fun w1 => ?_, rfl, rfl, fun w9 hc9 _ hs9 => ?_⟩
 ·simp [execOp, Act.eval, Act.put, asBool]
 dsimp only [Act.put]
 simp only [List.setIfInBounds_toArray, List.set_cons_succ, List.set_cons_zero, List.drop_succ_cons, List.drop_zero]
 obtain ⟨c0, c1, c2, c3, c4, c5, c6, c7, c8⟩ := hs9.all9
 clear hs9
 go_wp2_with fail
 refine bodyPost_ret (v := .tuple #[.agg ↑v2, .bool true]) (by simp [results, Tryz.results9, go_sem, c0, c1, c2, c3, c4, c5, c6, c7, c8]) rfl ?_
 have hg9 : Chg (fun k => k = w.heap.size + 2) W3 w9 := hc9.mono fun k _ hk => by rcases hk with h | h; exact h.elim; exact h
 have hcw := (((((Chg.of_below (S := fun k => p.has k ∨ k = w.heap.size + 2) HW.out).trans (HST.out.chg.mono fun k _ hk => .inl hk)).trans (.of_below HB2.out)).trans (hg9.mono fun k _ hk => .inr hk)).drop_ (by omega))
 refine ⟨p', v2, r2, rfl, by rw [HC.out]; exact ⟨HX2.out.chg1 hg9 HO2.out (by decide) (by decide), HST.out.g, fun k hk => by rcases HST.out.sub k hk with h | h; exact .inl h; exact .inr (Nat.le_trans HW.out.size h), hcw⟩, ?_, by rw [HC.out]; exact HR2.out⟩
 exact (HA2.out.chg (hg9.mono fun k _ hk => by subst hk; exact .inl (.inr ⟨by omega, by have := HSZ.out; omega⟩))).less fun k hk => by rcases hk with h | h; exact .inl (.inl h); exact .inr h
end Go.Proofs.YtehlbomkldnalaaGreat
