/- Parts of the proofs of this seat: Balanced. Each part says what it proves; no condition beyond those stated there. -/
import Derived.Test.YtpeokpnjnmgloaaM27
import Derived.Test.YtpeokpnjnmgloaaM30

/- balanced of the top's laws, where all is right: the walk. -/
namespace Go.Proofs.Ytpeokpnjnmgloaa
open Go Go.RowKit
set_option maxRecDepth 100000 in
set_option maxHeartbeats 8000000 in
theorem balanced_yes (p : Fp) (s : SS) (R : List (Int × Int)) (rm : Nat) (w : World) (hX : StA w p s) (hI : Inv s) (hF : Few s) (hP : Ped R s) (hM : MapOf w rm (R.map (kv (Value.int .i64)))) :
    Calls Try.prog 10 #[.pointer (some ⟨p.g, 0, none⟩), .int .i64 s.received, .map (some rm)] w fun e w' => e = .returned (.bool true) ∧ Below w.heap.size w w' := by
  have HI := hide hI
  have HF := hide hF
  have HP := hide hP
  have hbb := Blk.new w 52 #[.int .i64 0, .int .i64 0, .int .i64 0, .int .i64 0, .int .i64 0]
  have hB := (Below.refl w.heap.size w).alloc (Nat.le_refl _) (.cells #[.int .i64 0, .int .i64 0, .int .i64 0, .int .i64 0, .int .i64 0] 52)
  replace hX := hX.below hB
  replace hM := hM.below hB hM.lt
  clear hI hF hP
  go_enter Try.func10, Try.ntmps10
  go_upto_region 2 with fail
  generalize w.alloc (.cells #[.int .i64 0, .int .i64 0, .int .i64 0, .int .i64 0, .int .i64 0] 52) = W at *
  obtain ⟨bb, hbe⟩ : ∃ b, w.heap.size = b := ⟨_, rfl⟩
  have HBE := hide hbe
  rw [hbe] at hbb ⊢
  clear hbe
  have HX := hide hX
  clear hX
  go_wp2_with fail
  refine (items_any p s W HX.out HI.out HF.out).mono ?_
  rintro e W6 ⟨A1, c1, hs, rfl, hS1, hIn, hb6, hA1⟩
  have HX6 := hide (HX.out.below hb6)
  have hg1 : ∀ ad, A1 = some ad → ad.block ≠ bb := fun ad h => by have h1 := hA1 ad h; have := hbb.lt; omega
  have HG1 := hide hg1
  replace hbb := hbb.below hb6 hbb.lt
  replace hM := hM.below hb6 hM.lt
  replace hB := hB.trans (hb6.mono hB.size)
  have HIN := hide hIn
  clear hb6 hA1 HX hg1 hIn
  go_wp2_with fail
  refine (pieces_any p s W6 HX6.out HI.out HF.out).mono ?_
  rintro e W7 ⟨A2, c2, rfl, hS2, hb7, hA2⟩
  have HG2 : Hid (∀ ad, A2 = some ad → ad.block ≠ bb) := fun ad h => by have h1 := hA2 ad h; have := hbb.lt; omega
  have HX7 := hide (HX6.out.below hb7)
  replace hbb := hbb.below hb7 hbb.lt
  replace hM := hM.below hb7 hM.lt
  replace hS1 := Slc.on hS1 hb7
  replace hB := hB.trans (hb7.mono hB.size)
  clear hb7 hA2 HX6
  obtain ⟨ys, hys⟩ : ∃ ys, itemsL s = ys := ⟨_, rfl⟩
  obtain ⟨ps, hps⟩ : ∃ ps, piecesL s = ps := ⟨_, rfl⟩
  have hyl : ys.length ≤ 1000000 := by rw [← hys, itemsL_len HI.out]; exact HF.out.it
  have hpl : ps.length ≤ 1000000 := by rw [← hps, piecesL_len HI.out]; exact HF.out.pc
  rw [hys] at HIN ⊢
  rw [hps] at hS2 ⊢
  have HYS := hide hys
  have HPS := hide hps
  clear hys hps
  have HB7 := hide hB
  have HM7 := hide hM
  have HS1 := hide hS1
  have HS2 := hide hS2
  have HBB7 := hide hbb
  have hbn := hbb.lt
  clear hB hM hS1 hS2
  -- what holds where only the box of the sums has turned
  have HST : Hid (∀ W, Chg (fun k => k = bb) W7 W → StA W p s ∧ MapOf W rm (R.map (kv (Value.int .i64))) ∧ Slc SH.enc 9 W W7.heap.size A1 hs ∧ Slc Piece.enc 8 W W7.heap.size A2 ps ∧ Below bb w W) := fun W hc =>
    ⟨HX7.out.chg1 hc HBB7.out (by decide) (by decide), HM7.out.chg hc (HM7.out.blk_ne HBB7.out), HS1.out.chgA hc (Nat.le_refl _) HG1.out, HS2.out.chgA hc (Nat.le_refl _) HG2.out, by
      have h1 : Below bb w W7 := by rw [← HBE.out]; exact HB7.out
      exact h1.trans (hc.below1 (Nat.le_of_lt HBB7.out.lt) (Nat.le_refl _))⟩
  go_upto_region 4 with fail
  go_loopw [10] (fun z wr => ∃ (i : Nat), z = .int .i64 i ∧ i ≤ ys.length ∧ Blk wr bb 52 #[.int .i64 0, .int .i64 (sumL areaS (ys.take i)), .int .i64 0, .int .i64 0, .int .i64 0] ∧ Chg (fun k => k = bb) W7 wr) (fun z _ => ys.length - (intOf z).toNat)
  case atStart => exact ⟨0, rfl, Nat.zero_le _, hbb, Chg.refl _ _⟩
  case round =>
    clear hbb
    obtain ⟨W, rfl⟩ : ∃ X : World, X = wr := ⟨_, rfl⟩
    obtain ⟨i, rfl, hi, hbb, hc⟩ := hrel
    have hcs := hc.size
    by_cases hlt : i < ys.length
    · obtain ⟨y, hy⟩ : ∃ y, ys[i]? = some y := ⟨_, List.getElem?_eq_getElem hlt⟩
      obtain ⟨A9, c9, hh, _⟩ := HIN.out.at_ hy
      obtain ⟨hX1, hM1, hS1, _, hBW⟩ := HST.out W hc
      obtain ⟨bS, oS, hAS, hbS, d0, d1, d2, d3, d4, d5, d6, d7, d8⟩ := sh_at hS1 hh
      have hym : y ∈ itemsL s := by rw [HYS.out]; exact List.mem_of_getElem? hy
      have HLK := hide (item_in HI.out hym)
      have har := item_area HI.out HLK.out
      have hEN := HP.out.it _ _ HLK.out
      have hsum := sumL_bd areaS (ys.take i) fun z hz => item_area HI.out (item_in HI.out (by rw [HYS.out]; exact List.mem_of_mem_take hz))
      have hlt' : ((ys.take i).length : Int) ≤ 1000000 := by rw [List.length_take]; omega
      have HT : Hid (sumL areaS (ys.take (i + 1)) = sumL areaS (ys.take i) + y.width * y.length) := sumL_take areaS hy
      have hii : (i : Int) < (ys.length : Int) := by omega
      have ei : IntKind.i64.wrap ((i : Int) + 1) = ((i + 1 : Nat) : Int) := by rw [IntWalk.i64_in _ (by omega)]; push_cast; rfl
      have HY := hide hy
      have HEN := hide hEN
      obtain ⟨sm, hsm⟩ : ∃ sm, sumL areaS (ys.take i) = sm := ⟨_, rfl⟩
      rw [hsm] at hbb hsum HT
      have e1 : IntKind.i64.wrap (y.width * y.length) = y.width * y.length := IntWalk.i64_in _ (by omega)
      have e2 : IntKind.i64.wrap (sm + y.width * y.length) = sm + y.width * y.length := IntWalk.i64_in _ (by omega)
      clear hy hh hym har hEN hsum hlt' hsm hX1 hM1 hS1
      have HAS := hide hAS
      subst hAS
      have hyb := Blk.new W 65 #[.int .i64 y.id, .int .i64 y.root, .int .i64 y.grade, .int .i64 y.colour, .int .i64 y.lot, .int .i64 y.made, .int .i64 y.width, .int .i64 y.length, .slice A9 y.faults.length c9]
      have hal := (Below.refl W.heap.size W).alloc (Nat.le_refl _) (.cells #[.int .i64 y.id, .int .i64 y.root, .int .i64 y.grade, .int .i64 y.colour, .int .i64 y.lot, .int .i64 y.made, .int .i64 y.width, .int .i64 y.length, .slice A9 y.faults.length c9] 65)
      go_upto_region 7 with fail
      clear d0 d1 d2 d3 d4 d5 d6 d7 d8
      replace hbb := hbb.below hal hbb.lt
      replace hc := hc.trans (.of_below hal)
      have hne : bb < W.heap.size := by omega
      clear hal
      generalize W.alloc (.cells #[.int .i64 y.id, .int .i64 y.root, .int .i64 y.grade, .int .i64 y.colour, .int .i64 y.lot, .int .i64 y.made, .int .i64 y.width, .int .i64 y.length, .slice A9 y.faults.length c9] 65) = W3 at *
      generalize W.heap.size = by_ at *
      have z1 := hbb.cell_ 1 (v := .int .i64 sm) rfl
      have q6 := hyb.cell_ 6 (v := .int .i64 y.width) rfl
      have q7 := hyb.cell_ 7 (v := .int .i64 y.length) rfl
      go_upto_region 8 with (refine wpList_store_at rfl 3 _ _ rfl (.int .i64 (sm + y.width * y.length)) hbb rfl rfl (by kernel_rfl) rfl (by simp) rfl ?_; intro W4 hB4 hc4)
      have hbb4 : Blk W4 bb 52 #[.int .i64 0, .int .i64 (sm + y.width * y.length), .int .i64 0, .int .i64 0, .int .i64 0] := hB4
      replace hyb := hyb.chg1 hc4 (hyb.ne_ hbb (by decide))
      replace hc := hc.trans hc4
      rw [← HT.out] at hbb4
      clear z1 q6 q7 hbb hB4 hc4 e1 e2 HT
      have hbb := hbb4
      clear hbb4
      obtain ⟨W, rfl⟩ : ∃ X : World, X = W4 := ⟨_, rfl⟩
      try dsimp only [Act.put]
      obtain ⟨hX1, hM1, hS1, _, _⟩ := HST.out W hc
      have HSS := hide hS1
      have HSZ := hide hc.size
      clear hS1
      have HXq := hide hX1
      have HMq := hide hM1
      have HBQ := hide hbb
      have HCQ := hide hc
      clear hX1 hM1 hbb hc
      obtain ⟨wq, hwq⟩ : ∃ wq, wq = W := ⟨_, rfl⟩
      have hWW : Below wq.heap.size wq W := by rw [hwq]; exact Below.refl _ _
      rw [← hwq] at HXq HMq HBQ HCQ HSS HSZ
      clear hwq
      have HTR : Hid (∀ W', Below wq.heap.size wq W' → Calls Try.prog 27 #[.pointer (some ⟨p.g, 0, none⟩), .int .i64 y.id, .int .i64 y.root, .int .i64 y.lot, .map (some rm)] W' fun e w' => e = .returned (.bool true) ∧ Below W'.heap.size W' w') := fun W' h => traced_yes p s y.id y.root y.lot R rm W' (HXq.out.below h) HI.out HF.out HEN.out.1 HEN.out.2 (HMq.out.below h HMq.out.lt)
      cases i with
      | zero =>
        have g0 : decide ((0 : Int) < ((0 : Nat) : Int)) = false := rfl
        have g1 : decide ((0 : Nat) < 0) = false := rfl
        go_wp2_with fail
        have q0 := hyb.cell_ 0 rfl
        have q1 := hyb.cell_ 1 rfl
        have q2 := hyb.cell_ 2 rfl
        have q3 := hyb.cell_ 3 rfl
        have q4 := hyb.cell_ 4 rfl
        have q5 := hyb.cell_ 5 rfl
        have q6 := hyb.cell_ 6 rfl
        have q7 := hyb.cell_ 7 rfl
        have q8 := hyb.cell_ 8 rfl
        refine wp_region_quiet (C := fun w' => ∃ u : Since W, w' = u.w) (by kernel_rfl) (by kernel_rfl) (Since.start W) ?_
        dsimp only
        have y_q0 := Since.cell q0
        have y_q1 := Since.cell q1
        have y_q2 := Since.cell q2
        have y_q3 := Since.cell q3
        have y_q4 := Since.cell q4
        have y_q5 := Since.cell q5
        have y_q6 := Since.cell q6
        have y_q7 := Since.cell q7
        have y_q8 := Since.cell q8
        clear q0 q1 q2 q3 q4 q5 q6 q7 q8
        repeat (go_big_quiet_step ((go_at_call 27; exact Since.calls (HTR.out _ (Below.trans hWW (Below.mono (Since.h _) (Below.size hWW)))))))
        refine wpQuiet_nil ?_
        rintro W ⟨⟨_, hb⟩, rfl⟩
        try dsimp only at hb ⊢
        clear y_q0 y_q1 y_q2 y_q3 y_q4 y_q5 y_q6 y_q7 y_q8
        replace hyb := hyb.below hb hyb.lt
        replace hWW := Below.trans hWW (Below.mono hb (Below.size hWW))
        clear hb
        have q0 := hyb.cell_ 0 rfl
        have q1 := hyb.cell_ 1 rfl
        have q2 := hyb.cell_ 2 rfl
        have q3 := hyb.cell_ 3 rfl
        have q4 := hyb.cell_ 4 rfl
        have q5 := hyb.cell_ 5 rfl
        have q6 := hyb.cell_ 6 rfl
        have q7 := hyb.cell_ 7 rfl
        have q8 := hyb.cell_ 8 rfl
        clear q0 q1 q2 q3 q4 q5 q6 q7 q8
        clear g0 g1
        go_wp2_with fail
        go_roundw
        case rel => exact ⟨0 + 1, by go_num, by omega, HBQ.out.below hWW HBQ.out.lt, HCQ.out.trans (.of_below hWW)⟩
        case measure => simp [intOf]; omega
      | succ j =>
        obtain ⟨y2, hy2⟩ : ∃ y2, ys[j]? = some y2 := ⟨_, List.getElem?_eq_getElem (by omega)⟩
        obtain ⟨Az, cz, hhz, _⟩ := HIN.out.at_ hy2
        obtain ⟨bS2, oS2, hAS2, hbS2, e0, _, _, _, _, _, _, _, _⟩ := sh_at (HSS.out.below (Below.mono hWW HSZ.out)) hhz
        obtain ⟨rfl, rfl⟩ : bS = bS2 ∧ oS = oS2 := by injection hAS2 with h1; injection h1 with h2 h3; exact ⟨h2, h3⟩
        clear hhz hAS2
        have hid := next_id (items_shows HI.out).s (i := j) (x := y2) (y := y) (by rw [HYS.out]; exact hy2) (by rw [HYS.out]; exact HY.out)
        obtain ⟨iv, hiv⟩ : ∃ iv : Int, iv = ((j + 1 : Nat) : Int) := ⟨_, rfl⟩
        rw [← hiv] at ei ⊢
        have g0 : decide ((0 : Int) < iv) = true := decide_eq_true (by omega)
        have ej : IntKind.i64.wrap (iv - 1) = (j : Int) := by rw [IntWalk.i64_in _ (by omega)]; omega
        have hjj : (j : Int) < (ys.length : Int) := by omega
        have g2 : decide (y.id ≤ y2.id) = false := decide_eq_false (by omega)
        have HIV := hide hiv
        clear hiv hid hy2
        go_wp2_with fail
        have q0 := hyb.cell_ 0 rfl
        have q1 := hyb.cell_ 1 rfl
        have q2 := hyb.cell_ 2 rfl
        have q3 := hyb.cell_ 3 rfl
        have q4 := hyb.cell_ 4 rfl
        have q5 := hyb.cell_ 5 rfl
        have q6 := hyb.cell_ 6 rfl
        have q7 := hyb.cell_ 7 rfl
        have q8 := hyb.cell_ 8 rfl
        refine wp_region_quiet (C := fun w' => ∃ u : Since W, w' = u.w) (by kernel_rfl) (by kernel_rfl) (Since.start W) ?_
        dsimp only
        have y_q0 := Since.cell q0
        have y_q1 := Since.cell q1
        have y_q2 := Since.cell q2
        have y_q3 := Since.cell q3
        have y_q4 := Since.cell q4
        have y_q5 := Since.cell q5
        have y_q6 := Since.cell q6
        have y_q7 := Since.cell q7
        have y_q8 := Since.cell q8
        have y_e0 := Since.cell e0
        clear q0 q1 q2 q3 q4 q5 q6 q7 q8
        repeat (go_big_quiet_step ((go_at_call 27; exact Since.calls (HTR.out _ (Below.trans hWW (Below.mono (Since.h _) (Below.size hWW)))))))
        refine wpQuiet_nil ?_
        rintro W ⟨⟨_, hb⟩, rfl⟩
        try dsimp only at hb ⊢
        replace e0 : W.cell? _ = _ := y_e0 ⟨W, hb⟩
        clear y_q0 y_q1 y_q2 y_q3 y_q4 y_q5 y_q6 y_q7 y_q8 y_e0
        replace hyb := hyb.below hb hyb.lt
        replace hWW := Below.trans hWW (Below.mono hb (Below.size hWW))
        clear hb
        have q0 := hyb.cell_ 0 rfl
        have q1 := hyb.cell_ 1 rfl
        have q2 := hyb.cell_ 2 rfl
        have q3 := hyb.cell_ 3 rfl
        have q4 := hyb.cell_ 4 rfl
        have q5 := hyb.cell_ 5 rfl
        have q6 := hyb.cell_ 6 rfl
        have q7 := hyb.cell_ 7 rfl
        have q8 := hyb.cell_ 8 rfl
        clear q0 q1 q2 q3 q4 q5 q6 q7 q8
        clear g0 ej g2 e0
        go_wp2_with fail
        go_roundw
        case rel => exact ⟨j + 1 + 1, by go_num, by omega, HBQ.out.below hWW HBQ.out.lt, HCQ.out.trans (.of_below hWW)⟩
        case measure => have := HIV.out; simp [intOf]; omega
    · obtain rfl : i = ys.length := by omega
      have e9 : sumL areaS (ys.take ys.length) = stockF s := by rw [List.take_length, ← HYS.out]; exact stock_list HI.out
      rw [e9] at hbb
      clear e9 hcs
      go_upto_region 11 with fail
      go_loopw [12] (fun z wr => ∃ (i : Nat), z = .int .i64 i ∧ i ≤ ps.length ∧ Blk wr bb 52 #[.int .i64 0, .int .i64 (stockF s), .int .i64 (sumL pA (ps.take i)), .int .i64 (sumL pU (ps.take i)), .int .i64 0] ∧ Chg (fun k => k = bb) W7 wr) (fun z _ => ps.length - (intOf z).toNat)
      case atStart => exact ⟨0, rfl, Nat.zero_le _, hbb, hc⟩
      case round =>
        clear hbb hc
        obtain ⟨W, rfl⟩ : ∃ X : World, X = wr := ⟨_, rfl⟩
        obtain ⟨i, rfl, hi, hbb, hc⟩ := hrel
        have hcs := hc.size
        by_cases hlt : i < ps.length
        · obtain ⟨y, hy⟩ : ∃ y, ps[i]? = some y := ⟨_, List.getElem?_eq_getElem hlt⟩
          obtain ⟨_, _, _, hS2, _⟩ := HST.out W hc
          obtain ⟨bS, oS, hAS, hbS, d0, d1, d2, d3, d4, d5, d6, d7⟩ := pce_at hS2 hy
          have hym : y ∈ piecesL s := by rw [HPS.out]; exact List.mem_of_getElem? hy
          have hlk := piece_in HI.out hym
          have har := piece_area HI.out hlk
          have hEN := HP.out.pc _ _ hlk
          have hs1 := sumL_bd pA (ps.take i) fun z hz => (piece_parts HI.out (by rw [HPS.out]; exact List.mem_of_mem_take hz)).1
          have hs2 := sumL_bd pU (ps.take i) fun z hz => (piece_parts HI.out (by rw [HPS.out]; exact List.mem_of_mem_take hz)).2
          have hlt' : ((ps.take i).length : Int) ≤ 1000000 := by rw [List.length_take]; omega
          have HT1 := hide (sumL_take pA hy)
          have HT2 := hide (sumL_take pU hy)
          have hii : (i : Int) < (ps.length : Int) := by omega
          have ei : IntKind.i64.wrap ((i : Int) + 1) = ((i + 1 : Nat) : Int) := by rw [IntWalk.i64_in _ (by omega)]; push_cast; rfl
          have HY := hide hy
          have HEN := hide hEN
          obtain ⟨sa, hsa⟩ : ∃ sa, sumL pA (ps.take i) = sa := ⟨_, rfl⟩
          obtain ⟨su, hsu⟩ : ∃ su, sumL pU (ps.take i) = su := ⟨_, rfl⟩
          rw [hsa] at hbb hs1 HT1
          rw [hsu] at hbb hs2 HT2
          have e1 : IntKind.i64.wrap (y.width * y.length) = y.width * y.length := IntWalk.i64_in _ (by omega)
          have e2 : IntKind.i64.wrap (sa + y.width * y.length) = sa + y.width * y.length := IntWalk.i64_in _ (by omega)
          have e3 : IntKind.i64.wrap (su + y.width * y.length) = su + y.width * y.length := IntWalk.i64_in _ (by omega)
          clear hy hym hlk har hEN hs1 hs2 hlt' hsa hsu hS2
          have HAS := hide hAS
          subst hAS
          have hyb := Blk.new W 79 #[.int .i64 y.id, .int .i64 y.root, .int .i64 y.lot, .int .i64 y.grade, .int .i64 y.colour, .int .i64 y.width, .int .i64 y.length, .int .i64 y.use]
          have hal := (Below.refl W.heap.size W).alloc (Nat.le_refl _) (.cells #[.int .i64 y.id, .int .i64 y.root, .int .i64 y.lot, .int .i64 y.grade, .int .i64 y.colour, .int .i64 y.width, .int .i64 y.length, .int .i64 y.use] 79)
          go_upto_region 14 with fail
          clear d0 d1 d2 d3 d4 d5 d6 d7
          replace hbb := hbb.below hal hbb.lt
          replace hc := hc.trans (.of_below hal)
          clear hal
          generalize W.alloc (.cells #[.int .i64 y.id, .int .i64 y.root, .int .i64 y.lot, .int .i64 y.grade, .int .i64 y.colour, .int .i64 y.width, .int .i64 y.length, .int .i64 y.use] 79) = W3 at *
          generalize W.heap.size = by_ at *
          have z2 := hbb.cell_ 2 (v := .int .i64 sa) rfl
          have z3 := hbb.cell_ 3 (v := .int .i64 su) rfl
          have q5 := hyb.cell_ 5 (v := .int .i64 y.width) rfl
          have q6 := hyb.cell_ 6 (v := .int .i64 y.length) rfl
          have q7 := hyb.cell_ 7 (v := .int .i64 y.use) rfl
          by_cases hu : y.use = 0
          · have HN1 : Hid (sumL pA (ps.take (i + 1)) = sa + y.width * y.length) := by show _ = _; rw [HT1.out]; unfold pA; rw [if_pos hu]
            have HN2 : Hid (sumL pU (ps.take (i + 1)) = su) := by show _ = _; rw [HT2.out]; unfold pU; rw [if_pos hu]; omega
            clear HT1 HT2
            go_upto_region 17 with (refine wpList_store_at rfl 3 _ _ rfl (.int .i64 (sa + y.width * y.length)) hbb rfl rfl (by kernel_rfl) rfl (by simp) rfl ?_; intro W4 hB4 hc4)
            have hbb4 : Blk W4 bb 52 #[.int .i64 0, .int .i64 (stockF s), .int .i64 (sa + y.width * y.length), .int .i64 su, .int .i64 0] := hB4
            replace hyb := hyb.chg1 hc4 (hyb.ne_ hbb (by decide))
            replace hc := hc.trans hc4
            rw [← HN1.out, ← HN2.out] at hbb4
            clear z2 z3 q5 q6 q7 hbb hB4 hc4 e1 e2 e3 HN1 HN2 hu
            have hbb := hbb4
            clear hbb4
            obtain ⟨W, rfl⟩ : ∃ X : World, X = W4 := ⟨_, rfl⟩
            try dsimp only [Act.put]
            obtain ⟨hX1, hM1, _, hS1, _⟩ := HST.out W hc
            have HSS := hide hS1
            have HSZ := hide hc.size
            clear hS1
            have HXq := hide hX1
            have HMq := hide hM1
            have HBQ := hide hbb
            have HCQ := hide hc
            clear hX1 hM1 hbb hc
            obtain ⟨wq, hwq⟩ : ∃ wq, wq = W := ⟨_, rfl⟩
            have hWW : Below wq.heap.size wq W := by rw [hwq]; exact Below.refl _ _
            rw [← hwq] at HXq HMq HBQ HCQ HSS HSZ
            clear hwq
            have HTR : Hid (∀ W', Below wq.heap.size wq W' → Calls Try.prog 27 #[.pointer (some ⟨p.g, 0, none⟩), .int .i64 y.id, .int .i64 y.root, .int .i64 y.lot, .map (some rm)] W' fun e w' => e = .returned (.bool true) ∧ Below W'.heap.size W' w') := fun W' h => traced_yes p s y.id y.root y.lot R rm W' (HXq.out.below h) HI.out HF.out HEN.out.1 HEN.out.2 (HMq.out.below h HMq.out.lt)
            cases i with
            | zero =>
              have g0 : decide ((0 : Int) < ((0 : Nat) : Int)) = false := rfl
              have g1 : decide ((0 : Nat) < 0) = false := rfl
              go_wp2_with fail
              have q0 := hyb.cell_ 0 rfl
              have q1 := hyb.cell_ 1 rfl
              have q2 := hyb.cell_ 2 rfl
              have q3 := hyb.cell_ 3 rfl
              have q4 := hyb.cell_ 4 rfl
              have q5 := hyb.cell_ 5 rfl
              have q6 := hyb.cell_ 6 rfl
              have q7 := hyb.cell_ 7 rfl
              refine wp_region_quiet (C := fun w' => ∃ u : Since W, w' = u.w) (by kernel_rfl) (by kernel_rfl) (Since.start W) ?_
              dsimp only
              have y_q0 := Since.cell q0
              have y_q1 := Since.cell q1
              have y_q2 := Since.cell q2
              have y_q3 := Since.cell q3
              have y_q4 := Since.cell q4
              have y_q5 := Since.cell q5
              have y_q6 := Since.cell q6
              have y_q7 := Since.cell q7
              clear q0 q1 q2 q3 q4 q5 q6 q7
              repeat (go_big_quiet_step ((go_at_call 27; exact Since.calls (HTR.out _ (Below.trans hWW (Below.mono (Since.h _) (Below.size hWW)))))))
              refine wpQuiet_nil ?_
              rintro W ⟨⟨_, hb⟩, rfl⟩
              try dsimp only at hb ⊢
              clear y_q0 y_q1 y_q2 y_q3 y_q4 y_q5 y_q6 y_q7
              replace hyb := hyb.below hb hyb.lt
              replace hWW := Below.trans hWW (Below.mono hb (Below.size hWW))
              clear hb
              have q0 := hyb.cell_ 0 rfl
              have q1 := hyb.cell_ 1 rfl
              have q2 := hyb.cell_ 2 rfl
              have q3 := hyb.cell_ 3 rfl
              have q4 := hyb.cell_ 4 rfl
              have q5 := hyb.cell_ 5 rfl
              have q6 := hyb.cell_ 6 rfl
              have q7 := hyb.cell_ 7 rfl
              clear q0 q1 q2 q3 q4 q5 q6 q7
              clear g0 g1
              go_wp2_with fail
              go_roundw
              case rel => exact ⟨0 + 1, by go_num, by omega, HBQ.out.below hWW HBQ.out.lt, HCQ.out.trans (.of_below hWW)⟩
              case measure => simp [intOf]; omega
            | succ j =>
              obtain ⟨y2, hy2⟩ : ∃ y2, ps[j]? = some y2 := ⟨_, List.getElem?_eq_getElem (by omega)⟩
              obtain ⟨bS2, oS2, hAS2, hbS2, e0, _, _, _, _, _, _, _⟩ := pce_at (HSS.out.below (Below.mono hWW HSZ.out)) hy2
              obtain ⟨rfl, rfl⟩ : bS = bS2 ∧ oS = oS2 := by injection hAS2 with h1; injection h1 with h2 h3; exact ⟨h2, h3⟩
              clear hAS2
              have hid := next_id (pieces_shows HI.out).s (i := j) (x := y2) (y := y) (by rw [HPS.out]; exact hy2) (by rw [HPS.out]; exact HY.out)
              obtain ⟨iv, hiv⟩ : ∃ iv : Int, iv = ((j + 1 : Nat) : Int) := ⟨_, rfl⟩
              rw [← hiv] at ei ⊢
              have g0 : decide ((0 : Int) < iv) = true := decide_eq_true (by omega)
              have ej : IntKind.i64.wrap (iv - 1) = (j : Int) := by rw [IntWalk.i64_in _ (by omega)]; omega
              have hjj : (j : Int) < (ps.length : Int) := by omega
              have g2 : decide (y.id ≤ y2.id) = false := decide_eq_false (by omega)
              have HIV := hide hiv
              clear hiv hid hy2
              go_wp2_with fail
              have q0 := hyb.cell_ 0 rfl
              have q1 := hyb.cell_ 1 rfl
              have q2 := hyb.cell_ 2 rfl
              have q3 := hyb.cell_ 3 rfl
              have q4 := hyb.cell_ 4 rfl
              have q5 := hyb.cell_ 5 rfl
              have q6 := hyb.cell_ 6 rfl
              have q7 := hyb.cell_ 7 rfl
              refine wp_region_quiet (C := fun w' => ∃ u : Since W, w' = u.w) (by kernel_rfl) (by kernel_rfl) (Since.start W) ?_
              dsimp only
              have y_q0 := Since.cell q0
              have y_q1 := Since.cell q1
              have y_q2 := Since.cell q2
              have y_q3 := Since.cell q3
              have y_q4 := Since.cell q4
              have y_q5 := Since.cell q5
              have y_q6 := Since.cell q6
              have y_q7 := Since.cell q7
              have y_e0 := Since.cell e0
              clear q0 q1 q2 q3 q4 q5 q6 q7
              repeat (go_big_quiet_step ((go_at_call 27; exact Since.calls (HTR.out _ (Below.trans hWW (Below.mono (Since.h _) (Below.size hWW)))))))
              refine wpQuiet_nil ?_
              rintro W ⟨⟨_, hb⟩, rfl⟩
              try dsimp only at hb ⊢
              replace e0 : W.cell? _ = _ := y_e0 ⟨W, hb⟩
              clear y_q0 y_q1 y_q2 y_q3 y_q4 y_q5 y_q6 y_q7 y_e0
              replace hyb := hyb.below hb hyb.lt
              replace hWW := Below.trans hWW (Below.mono hb (Below.size hWW))
              clear hb
              have q0 := hyb.cell_ 0 rfl
              have q1 := hyb.cell_ 1 rfl
              have q2 := hyb.cell_ 2 rfl
              have q3 := hyb.cell_ 3 rfl
              have q4 := hyb.cell_ 4 rfl
              have q5 := hyb.cell_ 5 rfl
              have q6 := hyb.cell_ 6 rfl
              have q7 := hyb.cell_ 7 rfl
              clear q0 q1 q2 q3 q4 q5 q6 q7
              clear g0 ej g2 e0
              go_wp2_with fail
              go_roundw
              case rel => exact ⟨j + 1 + 1, by go_num, by omega, HBQ.out.below hWW HBQ.out.lt, HCQ.out.trans (.of_below hWW)⟩
              case measure => have := HIV.out; simp [intOf]; omega
          · have HN1 : Hid (sumL pA (ps.take (i + 1)) = sa) := by show _ = _; rw [HT1.out]; unfold pA; rw [if_neg hu]; omega
            have HN2 : Hid (sumL pU (ps.take (i + 1)) = su + y.width * y.length) := by show _ = _; rw [HT2.out]; unfold pU; rw [if_neg hu]
            clear HT1 HT2
            go_upto_region 17 with (refine wpList_store_at rfl 3 _ _ rfl (.int .i64 (su + y.width * y.length)) hbb rfl rfl (by kernel_rfl) rfl (by simp) rfl ?_; intro W4 hB4 hc4)
            have hbb4 : Blk W4 bb 52 #[.int .i64 0, .int .i64 (stockF s), .int .i64 sa, .int .i64 (su + y.width * y.length), .int .i64 0] := hB4
            replace hyb := hyb.chg1 hc4 (hyb.ne_ hbb (by decide))
            replace hc := hc.trans hc4
            rw [← HN1.out, ← HN2.out] at hbb4
            clear z2 z3 q5 q6 q7 hbb hB4 hc4 e1 e2 e3 HN1 HN2 hu
            have hbb := hbb4
            clear hbb4
            obtain ⟨W, rfl⟩ : ∃ X : World, X = W4 := ⟨_, rfl⟩
            try dsimp only [Act.put]
            obtain ⟨hX1, hM1, _, hS1, _⟩ := HST.out W hc
            have HSS := hide hS1
            have HSZ := hide hc.size
            clear hS1
            have HXq := hide hX1
            have HMq := hide hM1
            have HBQ := hide hbb
            have HCQ := hide hc
            clear hX1 hM1 hbb hc
            obtain ⟨wq, hwq⟩ : ∃ wq, wq = W := ⟨_, rfl⟩
            have hWW : Below wq.heap.size wq W := by rw [hwq]; exact Below.refl _ _
            rw [← hwq] at HXq HMq HBQ HCQ HSS HSZ
            clear hwq
            have HTR : Hid (∀ W', Below wq.heap.size wq W' → Calls Try.prog 27 #[.pointer (some ⟨p.g, 0, none⟩), .int .i64 y.id, .int .i64 y.root, .int .i64 y.lot, .map (some rm)] W' fun e w' => e = .returned (.bool true) ∧ Below W'.heap.size W' w') := fun W' h => traced_yes p s y.id y.root y.lot R rm W' (HXq.out.below h) HI.out HF.out HEN.out.1 HEN.out.2 (HMq.out.below h HMq.out.lt)
            cases i with
            | zero =>
              have g0 : decide ((0 : Int) < ((0 : Nat) : Int)) = false := rfl
              have g1 : decide ((0 : Nat) < 0) = false := rfl
              go_wp2_with fail
              have q0 := hyb.cell_ 0 rfl
              have q1 := hyb.cell_ 1 rfl
              have q2 := hyb.cell_ 2 rfl
              have q3 := hyb.cell_ 3 rfl
              have q4 := hyb.cell_ 4 rfl
              have q5 := hyb.cell_ 5 rfl
              have q6 := hyb.cell_ 6 rfl
              have q7 := hyb.cell_ 7 rfl
              refine wp_region_quiet (C := fun w' => ∃ u : Since W, w' = u.w) (by kernel_rfl) (by kernel_rfl) (Since.start W) ?_
              dsimp only
              have y_q0 := Since.cell q0
              have y_q1 := Since.cell q1
              have y_q2 := Since.cell q2
              have y_q3 := Since.cell q3
              have y_q4 := Since.cell q4
              have y_q5 := Since.cell q5
              have y_q6 := Since.cell q6
              have y_q7 := Since.cell q7
              clear q0 q1 q2 q3 q4 q5 q6 q7
              repeat (go_big_quiet_step ((go_at_call 27; exact Since.calls (HTR.out _ (Below.trans hWW (Below.mono (Since.h _) (Below.size hWW)))))))
              refine wpQuiet_nil ?_
              rintro W ⟨⟨_, hb⟩, rfl⟩
              try dsimp only at hb ⊢
              clear y_q0 y_q1 y_q2 y_q3 y_q4 y_q5 y_q6 y_q7
              replace hyb := hyb.below hb hyb.lt
              replace hWW := Below.trans hWW (Below.mono hb (Below.size hWW))
              clear hb
              have q0 := hyb.cell_ 0 rfl
              have q1 := hyb.cell_ 1 rfl
              have q2 := hyb.cell_ 2 rfl
              have q3 := hyb.cell_ 3 rfl
              have q4 := hyb.cell_ 4 rfl
              have q5 := hyb.cell_ 5 rfl
              have q6 := hyb.cell_ 6 rfl
              have q7 := hyb.cell_ 7 rfl
              clear q0 q1 q2 q3 q4 q5 q6 q7
              clear g0 g1
              go_wp2_with fail
              go_roundw
              case rel => exact ⟨0 + 1, by go_num, by omega, HBQ.out.below hWW HBQ.out.lt, HCQ.out.trans (.of_below hWW)⟩
              case measure => simp [intOf]; omega
            | succ j =>
              obtain ⟨y2, hy2⟩ : ∃ y2, ps[j]? = some y2 := ⟨_, List.getElem?_eq_getElem (by omega)⟩
              obtain ⟨bS2, oS2, hAS2, hbS2, e0, _, _, _, _, _, _, _⟩ := pce_at (HSS.out.below (Below.mono hWW HSZ.out)) hy2
              obtain ⟨rfl, rfl⟩ : bS = bS2 ∧ oS = oS2 := by injection hAS2 with h1; injection h1 with h2 h3; exact ⟨h2, h3⟩
              clear hAS2
              have hid := next_id (pieces_shows HI.out).s (i := j) (x := y2) (y := y) (by rw [HPS.out]; exact hy2) (by rw [HPS.out]; exact HY.out)
              obtain ⟨iv, hiv⟩ : ∃ iv : Int, iv = ((j + 1 : Nat) : Int) := ⟨_, rfl⟩
              rw [← hiv] at ei ⊢
              have g0 : decide ((0 : Int) < iv) = true := decide_eq_true (by omega)
              have ej : IntKind.i64.wrap (iv - 1) = (j : Int) := by rw [IntWalk.i64_in _ (by omega)]; omega
              have hjj : (j : Int) < (ps.length : Int) := by omega
              have g2 : decide (y.id ≤ y2.id) = false := decide_eq_false (by omega)
              have HIV := hide hiv
              clear hiv hid hy2
              go_wp2_with fail
              have q0 := hyb.cell_ 0 rfl
              have q1 := hyb.cell_ 1 rfl
              have q2 := hyb.cell_ 2 rfl
              have q3 := hyb.cell_ 3 rfl
              have q4 := hyb.cell_ 4 rfl
              have q5 := hyb.cell_ 5 rfl
              have q6 := hyb.cell_ 6 rfl
              have q7 := hyb.cell_ 7 rfl
              refine wp_region_quiet (C := fun w' => ∃ u : Since W, w' = u.w) (by kernel_rfl) (by kernel_rfl) (Since.start W) ?_
              dsimp only
              have y_q0 := Since.cell q0
              have y_q1 := Since.cell q1
              have y_q2 := Since.cell q2
              have y_q3 := Since.cell q3
              have y_q4 := Since.cell q4
              have y_q5 := Since.cell q5
              have y_q6 := Since.cell q6
              have y_q7 := Since.cell q7
              have y_e0 := Since.cell e0
              clear q0 q1 q2 q3 q4 q5 q6 q7
              repeat (go_big_quiet_step ((go_at_call 27; exact Since.calls (HTR.out _ (Below.trans hWW (Below.mono (Since.h _) (Below.size hWW)))))))
              refine wpQuiet_nil ?_
              rintro W ⟨⟨_, hb⟩, rfl⟩
              try dsimp only at hb ⊢
              replace e0 : W.cell? _ = _ := y_e0 ⟨W, hb⟩
              clear y_q0 y_q1 y_q2 y_q3 y_q4 y_q5 y_q6 y_q7 y_e0
              replace hyb := hyb.below hb hyb.lt
              replace hWW := Below.trans hWW (Below.mono hb (Below.size hWW))
              clear hb
              have q0 := hyb.cell_ 0 rfl
              have q1 := hyb.cell_ 1 rfl
              have q2 := hyb.cell_ 2 rfl
              have q3 := hyb.cell_ 3 rfl
              have q4 := hyb.cell_ 4 rfl
              have q5 := hyb.cell_ 5 rfl
              have q6 := hyb.cell_ 6 rfl
              have q7 := hyb.cell_ 7 rfl
              clear q0 q1 q2 q3 q4 q5 q6 q7
              clear g0 ej g2 e0
              go_wp2_with fail
              go_roundw
              case rel => exact ⟨j + 1 + 1, by go_num, by omega, HBQ.out.below hWW HBQ.out.lt, HCQ.out.trans (.of_below hWW)⟩
              case measure => have := HIV.out; simp [intOf]; omega
        · obtain rfl : i = ps.length := by omega
          have e8 : sumL pA (ps.take ps.length) = freeF s := by rw [List.take_length, ← HPS.out]; exact free_list HI.out
          have e9 : sumL pU (ps.take ps.length) = usedF s := by rw [List.take_length, ← HPS.out]; exact used_list HI.out
          rw [e8, e9] at hbb
          obtain ⟨hX1, _, _, _, hBW⟩ := HST.out W hc
          have HX1 := hide hX1
          clear e8 e9 hX1
          go_wp2_with fail
          refine (balance_any p s W HX1.out HI.out HF.out).mono ?_
          rintro e W8 ⟨rfl, hb8⟩
          have hbk := Blk.new W8 52 #[.int .i64 s.received, .int .i64 (stockF s), .int .i64 (freeF s), .int .i64 (usedF s), .int .i64 s.waste]
          have hal := (Below.refl W8.heap.size W8).alloc (Nat.le_refl _) (.cells #[.int .i64 s.received, .int .i64 (stockF s), .int .i64 (freeF s), .int .i64 (usedF s), .int .i64 s.waste] 52)
          replace hbb := (hbb.below hb8 hbb.lt).below hal (Nat.lt_of_lt_of_le hbb.lt hb8.size)
          have hbw8 : bb ≤ W.heap.size := by have := hBW.size; have := HBE.out; omega
          have hBZ := (hBW.trans (hb8.mono hbw8)).trans (hal.mono (Nat.le_trans hbw8 hb8.size))
          go_upto_region 20 with fail
          clear hb8 hal hbw8 hBW
          generalize W8.alloc (.cells #[.int .i64 s.received, .int .i64 (stockF s), .int .i64 (freeF s), .int .i64 (usedF s), .int .i64 s.waste] 52) = W9 at *
          generalize W8.heap.size = bk at *
          have z1 := hbb.cell_ 1 (v := .int .i64 (stockF s)) rfl
          have z2 := hbb.cell_ 2 (v := .int .i64 (freeF s)) rfl
          have z3 := hbb.cell_ 3 (v := .int .i64 (usedF s)) rfl
          have k0 := hbk.cell_ 0 rfl
          have k1 := hbk.cell_ 1 rfl
          have k2 := hbk.cell_ 2 rfl
          have k3 := hbk.cell_ 3 rfl
          have k4 := hbk.cell_ 4 rfl
          obtain ⟨a1, a2, a3, a4, a5, a6⟩ := areas_bd HI.out HF.out
          have e1 : IntKind.i64.wrap (stockF s + freeF s) = stockF s + freeF s := IntWalk.i64_in _ (by omega)
          have e2 : IntKind.i64.wrap (stockF s + freeF s + usedF s) = stockF s + freeF s + usedF s := IntWalk.i64_in _ (by omega)
          have e3 : IntKind.i64.wrap (stockF s + freeF s + usedF s + s.waste) = s.received := by rw [IntWalk.i64_in _ (by omega)]; exact a5
          clear a1 a2 a3 a5 a6 hbb hbk hc
          go_wp2_with fail
          go_ret
          exact ⟨rfl, by rw [HBE.out]; exact hBZ⟩
end Go.Proofs.Ytpeokpnjnmgloaa
