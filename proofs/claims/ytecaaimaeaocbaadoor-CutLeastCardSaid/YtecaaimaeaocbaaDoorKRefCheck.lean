/- Check of the reference: the walk. -/
import Derived.Test.YtecaaimaeaocbaaDoorKCheck
namespace Go.Proofs.YtecaaimaeaocbaaDoor
open Go Go.RowKit
theorem refKFits_n (L K : Int) (A : Option Addr) (c : Nat) (l : List Ask) (AP : Option Addr) (cP : Nat) (ps : List Int) (w : World) (hS : Slc Ask.enc 2 w w.heap.size A l) (hP : Slc intEnc 1 w w.heap.size AP ps) (hv : VK L K l) (hpl : ps.length = l.length) {v : Bool} (h : fitsB L K l ps = v) :
    Calls Tryd.prog 59 #[.agg #[.int .i64 L, .int .i64 K, .slice A l.length c], .slice AP ps.length cP] w fun e w' => e = .returned (.bool v) ∧ Below w.heap.size w w' := by
  subst h; exact refKFits_any L K A c l AP cP ps w hS hP hv hpl
theorem refKValidB_is (L K : Int) (A : Option Addr) (c : Nat) (l : List Ask) (w : World) (hS : Slc Ask.enc 2 w w.heap.size A l) {v : Bool} (h : validK L K l = v) :
    Calls Tryd.prog 26 #[.agg #[.int .i64 L, .int .i64 K, .slice A l.length c]] w fun e w' => e = .returned (.bool v) ∧ Below w.heap.size w w' := by
  subst h; exact refKValid_any L K A c l w hS
set_option maxRecDepth 100000 in
set_option maxHeartbeats 4000000 in
theorem refCheck_any (L K : Int) (A : Option Addr) (c : Nat) (l : List Ask) (AB : Option Addr) (cB : Nat) (bs : List Bt) (pl : List Bat) (w : World) (hS : Slc Ask.enc 2 w w.heap.size A l) (hP : PlanAt w AB bs pl) :
    Calls Tryd.prog 47 #[.agg #[.int .i64 L, .int .i64 K, .slice A l.length c], .slice AB pl.length cB] w fun e w' => e = .returned (.int .i64 (chkE L K l pl)) ∧ Below w.heap.size w w' := by
  have HD : Hid (chkE L K l pl = if validK L K l then if shapedP l.length pl then if pl.all (fun b => fitsB L K l b.ps) then if madeB pl l then 0 else 42 else 41 else 2 else 40) := rfl
  have hk := Blk.new w 24 #[.int .i64 L, .int .i64 K, .slice A l.length c]
  have hB := (Below.refl w.heap.size w).alloc (Nat.le_refl _) (.cells #[.int .i64 L, .int .i64 K, .slice A l.length c] 24)
  go_enter Tryd.func47, Tryd.ntmps47
  go_upto_region 1 with fail
  generalize w.alloc (.cells #[.int .i64 L, .int .i64 K, .slice A l.length c] 24) = W at *
  have c0 := hk.cell_ 0 rfl
  have c1 := hk.cell_ 1 rfl
  have c2 := hk.cell_ 2 rfl
  cases hv : validK L K l
  case false =>
    have HV := hide hv
    have HE : Hid (chkE L K l pl = 40) := by show _ = _; rw [HD.out, hv]; rfl
    clear hv
    go_wp2_with fail
    refine (refKValidB_is L K A c l _ (hS.on hB) HV.out).mono ?_
    rintro e W ⟨rfl, hb⟩
    clear c0 c1 c2
    replace hk := hk.below hb hk.lt
    replace hB := hB.trans (hb.mono hB.size)
    clear hb
    have c0 := hk.cell_ 0 rfl
    have c1 := hk.cell_ 1 rfl
    have c2 := hk.cell_ 2 rfl
    go_wp2_with fail
    go_ret
    exact ⟨by rw [HE.out]; rfl, hB⟩
  have HV := hide hv
  clear hv
  go_wp2_with fail
  refine (refKValidB_is L K A c l _ (hS.on hB) HV.out).mono ?_
  rintro e W ⟨rfl, hb⟩
  clear c0 c1 c2
  replace hk := hk.below hb hk.lt
  replace hB := hB.trans (hb.mono hB.size)
  clear hb
  have c0 := hk.cell_ 0 rfl
  have c1 := hk.cell_ 1 rfl
  have c2 := hk.cell_ 2 rfl
  have HVK := hide (validK_iff.1 HV.out)
  have hl8 : l.length ≤ 8 := HVK.out.few
  by_cases h4 : (1000 : Int) < (pl.length : Int)
  · have HE : Hid (chkE L K l pl = 2) := by show _ = _; rw [HD.out, HV.out]; unfold shapedP; rw [decide_eq_false (by omega)]; rfl
    go_wp2_with fail
    go_ret
    exact ⟨by rw [HE.out]; rfl, hB⟩
  have HA0 : Hid (shapedP l.length pl = (pl.drop 0).all fun b => inB 1 b.t 1000 && decide (b.ps.length = l.length)) := by show _ = _; unfold shapedP; rw [decide_eq_true (by omega)]; rfl
  go_wp2_with fail
  clear c0 c1 c2
  go_loopw [5] (fun y W => ∃ (i : Nat), y = .int .i64 i ∧ i ≤ pl.length ∧ Hid (shapedP l.length pl = (pl.drop i).all fun b => inB 1 b.t 1000 && decide (b.ps.length = l.length)) ∧ Blk W w.heap.size 24 #[.int .i64 L, .int .i64 K, .slice A l.length c] ∧ Below w.heap.size w W) (fun y _ => pl.length - (intOf y).toNat)
  case atStart => exact ⟨0, rfl, Nat.zero_le _, HA0, hk, hB⟩
  case round =>
    clear hk hB HA0
    obtain ⟨W, rfl⟩ : ∃ W : World, W = wr := ⟨_, rfl⟩
    obtain ⟨i, rfl, hi, HA, hk, hB⟩ := hrel
    by_cases hlt : i < pl.length
    · obtain ⟨p, b, off, A', c', hp, hA, hbl, d0, d1, hQ0⟩ := plan_at (hP.on hB) hlt
      have hii : (i : Int) < (pl.length : Int) := by omega
      have HX := hide hp
      clear hp hQ0
      subst hA
      have c0 := hk.cell_ 0 rfl
      have c1 := hk.cell_ 1 rfl
      have c2 := hk.cell_ 2 rfl
      cases q1 : inB 1 p.t 1000
      case false =>
        have HE : Hid (chkE L K l pl = 2) := by show _ = _; rw [HD.out, HV.out, HA.out, all_drop HX.out, q1]; rfl
        have HQ := hide q1
        clear q1
        go_wp2_with fail
        refine wp_region_quiet (C := fun w' => ∃ u : Since W, w' = u.w) (by kernel_rfl) (by kernel_rfl) (Since.start W) ?_
        dsimp only
        have y_c0 := Since.cell c0
        have y_c1 := Since.cell c1
        have y_c2 := Since.cell c2
        have y_d0 := Since.cell d0
        have y_d1 := Since.cell d1
        clear c0 c1 c2
        repeat (go_big_quiet_step ((go_at_call 61; exact Since.calls_same (kfrom_is 1 p.t 1000 _ HQ.out))))
        refine wpQuiet_nil ?_
        rintro W ⟨⟨_, hb⟩, rfl⟩
        try dsimp only at hb ⊢
        replace d0 : W.cell? _ = _ := y_d0 ⟨W, hb⟩
        replace d1 : W.cell? _ = _ := y_d1 ⟨W, hb⟩
        clear y_c0 y_c1 y_c2 y_d0 y_d1
        replace hk := hk.below hb hk.lt
        replace hB := hB.trans (hb.mono hB.size)
        clear hb
        have c0 := hk.cell_ 0 rfl
        have c1 := hk.cell_ 1 rfl
        have c2 := hk.cell_ 2 rfl
        go_wp2_with fail
        go_ret
        exact ⟨by rw [HE.out]; rfl, hB⟩
      have HQ := hide q1
      clear q1
      by_cases h3 : p.ps.length = l.length
      · have HA2 : Hid (shapedP l.length pl = (pl.drop (i + 1)).all fun b => inB 1 b.t 1000 && decide (b.ps.length = l.length)) := by show _ = _; rw [HA.out, all_drop HX.out, HQ.out, decide_eq_true h3]; rfl
        have hne : ((p.ps.length : Int) != (l.length : Int)) = false := by simp [h3]
        clear h3
        go_wp2_with fail
        refine wp_region_quiet (C := fun w' => ∃ u : Since W, w' = u.w) (by kernel_rfl) (by kernel_rfl) (Since.start W) ?_
        dsimp only
        have y_c0 := Since.cell c0
        have y_c1 := Since.cell c1
        have y_c2 := Since.cell c2
        have y_d0 := Since.cell d0
        have y_d1 := Since.cell d1
        clear c0 c1 c2
        repeat (go_big_quiet_step ((go_at_call 61; exact Since.calls_same (kfrom_is 1 p.t 1000 _ HQ.out))))
        refine wpQuiet_nil ?_
        rintro W ⟨⟨_, hb⟩, rfl⟩
        try dsimp only at hb ⊢
        replace d0 : W.cell? _ = _ := y_d0 ⟨W, hb⟩
        replace d1 : W.cell? _ = _ := y_d1 ⟨W, hb⟩
        clear y_c0 y_c1 y_c2 y_d0 y_d1
        replace hk := hk.below hb hk.lt
        replace hB := hB.trans (hb.mono hB.size)
        clear hb
        have c0 := hk.cell_ 0 rfl
        have c1 := hk.cell_ 1 rfl
        have c2 := hk.cell_ 2 rfl
        go_wp2_with fail
        go_roundw
        case rel => exact ⟨i + 1, by go_num, by omega, HA2, hk, hB⟩
        case measure => simp [intOf]; omega
      · have HE : Hid (chkE L K l pl = 2) := by show _ = _; rw [HD.out, HV.out, HA.out, all_drop HX.out, HQ.out, decide_eq_false h3]; rfl
        have hne : ((p.ps.length : Int) != (l.length : Int)) = true := by simp; omega
        clear h3
        go_wp2_with fail
        refine wp_region_quiet (C := fun w' => ∃ u : Since W, w' = u.w) (by kernel_rfl) (by kernel_rfl) (Since.start W) ?_
        dsimp only
        have y_c0 := Since.cell c0
        have y_c1 := Since.cell c1
        have y_c2 := Since.cell c2
        have y_d0 := Since.cell d0
        have y_d1 := Since.cell d1
        clear c0 c1 c2
        repeat (go_big_quiet_step ((go_at_call 61; exact Since.calls_same (kfrom_is 1 p.t 1000 _ HQ.out))))
        refine wpQuiet_nil ?_
        rintro W ⟨⟨_, hb⟩, rfl⟩
        try dsimp only at hb ⊢
        replace d0 : W.cell? _ = _ := y_d0 ⟨W, hb⟩
        replace d1 : W.cell? _ = _ := y_d1 ⟨W, hb⟩
        clear y_c0 y_c1 y_c2 y_d0 y_d1
        replace hk := hk.below hb hk.lt
        replace hB := hB.trans (hb.mono hB.size)
        clear hb
        have c0 := hk.cell_ 0 rfl
        have c1 := hk.cell_ 1 rfl
        have c2 := hk.cell_ 2 rfl
        go_wp2_with fail
        go_ret
        exact ⟨by rw [HE.out]; rfl, hB⟩
    · obtain rfl : i = pl.length := by omega
      have HSH : Hid (shapedP l.length pl = true) := by show _ = _; rw [HA.out, List.drop_length]; rfl
      have HE0 : Hid (chkE L K l pl = if pl.all (fun b => fitsB L K l b.ps) then if madeB pl l then 0 else 42 else 41) := by show _ = _; rw [HD.out, HV.out, HSH.out]; rfl
      clear HD HA
      have c0 := hk.cell_ 0 rfl
      have c1 := hk.cell_ 1 rfl
      have c2 := hk.cell_ 2 rfl
      go_wp2_with fail
      clear c0 c1 c2
      go_loopw [6] (fun y W => ∃ (i : Nat), y = .int .i64 i ∧ i ≤ pl.length ∧ Hid (∀ (j : Nat) b, j < i → pl[j]? = some b → fitsB L K l b.ps = true) ∧ Blk W w.heap.size 24 #[.int .i64 L, .int .i64 K, .slice A l.length c] ∧ Below w.heap.size w W) (fun y _ => pl.length - (intOf y).toNat)
      case atStart => exact ⟨0, rfl, Nat.zero_le _, hide fun j b hj => absurd hj (Nat.not_lt_zero _), hk, hB⟩
      case round =>
        clear hk hB
        obtain ⟨W, rfl⟩ : ∃ W : World, W = wr := ⟨_, rfl⟩
        obtain ⟨i, rfl, hi, HF, hk, hB⟩ := hrel
        by_cases hlt : i < pl.length
        · obtain ⟨p, b, off, A', c', hp, hA, hbl, d0, d1, hQ0⟩ := plan_at (hP.on hB) hlt
          have hii : (i : Int) < (pl.length : Int) := by omega
          have HPN := hide (shaped_at HSH.out hp).2
          have HX := hide hp
          have HQS := hide hQ0
          have HSW := hide (hS.on hB)
          clear hp hQ0
          subst hA
          have c0 := hk.cell_ 0 rfl
          have c1 := hk.cell_ 1 rfl
          have c2 := hk.cell_ 2 rfl
          cases q1 : fitsB L K l p.ps
          case false =>
            have HE : Hid (chkE L K l pl = 41) := by
              show _ = _
              rw [HE0.out, if_neg]
              intro h
              have := all_at.1 h i p HX.out
              rw [q1] at this; exact absurd this (by simp)
            have HQ := hide q1
            clear q1
            go_wp2_with fail
            refine wp_region_quiet (C := fun w' => ∃ u : Since W, w' = u.w) (by kernel_rfl) (by kernel_rfl) (Since.start W) ?_
            dsimp only
            have y_c0 := Since.cell c0
            have y_c1 := Since.cell c1
            have y_c2 := Since.cell c2
            have y_d0 := Since.cell d0
            have y_d1 := Since.cell d1
            clear c0 c1 c2
            repeat (go_big_quiet_step ((go_at_call 59; exact Since.calls (refKFits_n L K A c l A' c' p.ps _ (Slc.on HSW.out (Since.h _)) (Slc.on HQS.out (Since.h _)) HVK.out HPN.out HQ.out))))
            refine wpQuiet_nil ?_
            rintro W ⟨⟨_, hb⟩, rfl⟩
            try dsimp only at hb ⊢
            replace d0 : W.cell? _ = _ := y_d0 ⟨W, hb⟩
            replace d1 : W.cell? _ = _ := y_d1 ⟨W, hb⟩
            clear y_c0 y_c1 y_c2 y_d0 y_d1
            replace hk := hk.below hb hk.lt
            replace hB := hB.trans (hb.mono hB.size)
            clear hb
            have c0 := hk.cell_ 0 rfl
            have c1 := hk.cell_ 1 rfl
            have c2 := hk.cell_ 2 rfl
            go_wp2_with fail
            go_ret
            exact ⟨by rw [HE.out]; rfl, hB⟩
          have HF2 : Hid (∀ (j : Nat) b, j < i + 1 → pl[j]? = some b → fitsB L K l b.ps = true) := fun q b' hq hb' => by
            rcases Nat.lt_or_ge q i with h | h
            · exact HF.out q b' h hb'
            · obtain rfl : q = i := by omega
              have h2 := HX.out
              rw [hb'] at h2
              injection h2 with h2
              subst h2; exact q1
          have HQ := hide q1
          clear q1
          go_wp2_with fail
          refine wp_region_quiet (C := fun w' => ∃ u : Since W, w' = u.w) (by kernel_rfl) (by kernel_rfl) (Since.start W) ?_
          dsimp only
          have y_c0 := Since.cell c0
          have y_c1 := Since.cell c1
          have y_c2 := Since.cell c2
          have y_d0 := Since.cell d0
          have y_d1 := Since.cell d1
          clear c0 c1 c2
          repeat (go_big_quiet_step ((go_at_call 59; exact Since.calls (refKFits_n L K A c l A' c' p.ps _ (Slc.on HSW.out (Since.h _)) (Slc.on HQS.out (Since.h _)) HVK.out HPN.out HQ.out))))
          refine wpQuiet_nil ?_
          rintro W ⟨⟨_, hb⟩, rfl⟩
          try dsimp only at hb ⊢
          replace d0 : W.cell? _ = _ := y_d0 ⟨W, hb⟩
          replace d1 : W.cell? _ = _ := y_d1 ⟨W, hb⟩
          clear y_c0 y_c1 y_c2 y_d0 y_d1
          replace hk := hk.below hb hk.lt
          replace hB := hB.trans (hb.mono hB.size)
          clear hb
          have c0 := hk.cell_ 0 rfl
          have c1 := hk.cell_ 1 rfl
          have c2 := hk.cell_ 2 rfl
          go_wp2_with fail
          go_roundw
          case rel => exact ⟨i + 1, by go_num, by omega, HF2, hk, hB⟩
          case measure => simp [intOf]; omega
        · obtain rfl : i = pl.length := by omega
          have HE1 : Hid (chkE L K l pl = if madeB pl l then 0 else 42) := by
            show _ = _
            rw [HE0.out, if_pos (all_at.2 fun j b hb => HF.out j b (List.getElem?_eq_some_iff.1 hb).1 hb)]
          have HTL : Hid (∀ i j, 0 ≤ totI (pl.take i) j ∧ totI (pl.take i) j ≤ 50000000) := fun i j => totI_take_low (n := l.length) (L := L) (K := K) (l := l) HSH.out (fun q b _ hb => HF.out q b (List.getElem?_eq_some_iff.1 hb).1 hb) j
          clear HE0
          have c0 := hk.cell_ 0 rfl
          have c1 := hk.cell_ 1 rfl
          have c2 := hk.cell_ 2 rfl
          go_wp2_with fail
          clear c0 c1 c2
          go_loopw [7] (fun y W => ∃ (i : Nat), y = .int .i64 i ∧ i ≤ l.length ∧ Hid (∀ j : Nat, j < i → askB pl l j = true) ∧ Blk W w.heap.size 24 #[.int .i64 L, .int .i64 K, .slice A l.length c] ∧ Below w.heap.size w W) (fun y _ => l.length - (intOf y).toNat)
          case atStart => exact ⟨0, rfl, Nat.zero_le _, hide fun j hj => absurd hj (Nat.not_lt_zero _), hk, hB⟩
          case round =>
            clear hk hB
            obtain ⟨W, rfl⟩ : ∃ W : World, W = wr := ⟨_, rfl⟩
            obtain ⟨i, rfl, hi, HA, hk, hB⟩ := hrel
            by_cases hlt : i < l.length
            · have hii : (i : Int) < (l.length : Int) := by omega
              have c0 := hk.cell_ 0 rfl
              have c1 := hk.cell_ 1 rfl
              have c2 := hk.cell_ 2 rfl
              go_wp2_with fail
              clear c0 c1 c2
              go_loopw [8, 9] (fun x y W => ∃ (j : Nat), x = .int .i64 (totI (pl.take j) i) ∧ y = .int .i64 j ∧ j ≤ pl.length ∧ Blk W w.heap.size 24 #[.int .i64 L, .int .i64 K, .slice A l.length c] ∧ Below w.heap.size w W) (fun x y _ => pl.length - (intOf y).toNat)
              case atStart => exact ⟨0, rfl, rfl, Nat.zero_le _, hk, hB⟩
              case round =>
                clear hk hB
                obtain ⟨W, rfl⟩ : ∃ W : World, W = wr := ⟨_, rfl⟩
                obtain ⟨j, rfl, rfl, hj, hk, hB⟩ := hrel
                by_cases hjl : j < pl.length
                · obtain ⟨p, b, off, A', c', hp, hA, hbl, d0, d1, hQ0⟩ := plan_at (hP.on hB) hjl
                  have hjj : (j : Int) < (pl.length : Int) := by omega
                  obtain ⟨hpt, hpn⟩ := shaped_at HSH.out hp
                  obtain ⟨v, b2, off2, hv, hA2, hb2, hcp⟩ := ints_at' (k := i) hQ0 (by omega)
                  have hip : (i : Int) < (p.ps.length : Int) := by omega
                  have hvo := fits_ok (HF.out j p hjl hp) v (List.mem_of_getElem? hv)
                  have hpr := term_ok hpt hvo
                  have HS := hide (totI_snoc hp i)
                  obtain ⟨pr, hpre⟩ : ∃ pr, p.t * v = pr := ⟨_, rfl⟩
                  rw [hpre] at hpr
                  have e1 : IntKind.i64.wrap (p.t * v) = pr := by rw [hpre]; exact IntWalk.i64_in _ (by omega)
                  have HS2 : Hid (totI (pl.take (j + 1)) i = totI (pl.take j) i + pr) := by show _ = _; rw [HS.out, getD_of hv, hpre]
                  have htl := HTL.out j i
                  clear hp hv hpre HS hQ0 hpn
                  subst hA hA2
                  generalize totI (pl.take j) i = S at *
                  have c0 := hk.cell_ 0 rfl
                  have c1 := hk.cell_ 1 rfl
                  have c2 := hk.cell_ 2 rfl
                  go_wp2_with fail
                  refine wp_region_quiet (C := fun w' => ∃ u : Since W, w' = u.w) (by kernel_rfl) (by kernel_rfl) (Since.start W) ?_
                  dsimp only
                  have y_c0 := Since.cell c0
                  have y_c1 := Since.cell c1
                  have y_c2 := Since.cell c2
                  have y_d0 := Since.cell d0
                  have y_d1 := Since.cell d1
                  have y_hcp := Since.cell hcp
                  clear c0 c1 c2
                  repeat (go_big_quiet_step ((fail)))
                  refine wpQuiet_nil ?_
                  rintro W ⟨⟨_, hb⟩, rfl⟩
                  try dsimp only at hb ⊢
                  replace d0 : W.cell? _ = _ := y_d0 ⟨W, hb⟩
                  replace d1 : W.cell? _ = _ := y_d1 ⟨W, hb⟩
                  replace hcp : W.cell? _ = _ := y_hcp ⟨W, hb⟩
                  clear y_c0 y_c1 y_c2 y_d0 y_d1 y_hcp
                  replace hk := hk.below hb hk.lt
                  replace hB := hB.trans (hb.mono hB.size)
                  clear hb
                  have c0 := hk.cell_ 0 rfl
                  have c1 := hk.cell_ 1 rfl
                  have c2 := hk.cell_ 2 rfl
                  go_wp2_with fail
                  go_roundw
                  case rel => exact ⟨j + 1, by rw [HS2.out], by go_num, by omega, hk, hB⟩
                  case measure => simp [intOf]; omega
                · obtain rfl : j = pl.length := by omega
                  obtain ⟨⟨ln, cn⟩, b, off, hx, hA, _, d0, d1⟩ := ask_at (hS.below hB) hlt
                  obtain ⟨S, hSe⟩ : ∃ S, totI (pl.take pl.length) i = S := ⟨_, rfl⟩
                  have HAB : Hid (askB pl l i = decide (S = cn)) := by show _ = _; unfold askB; rw [hx, ← hSe, List.take_length]; rfl
                  rw [hSe]
                  dsimp only at d0 d1
                  clear hx hSe
                  subst hA
                  have c0 := hk.cell_ 0 rfl
                  have c1 := hk.cell_ 1 rfl
                  have c2 := hk.cell_ 2 rfl
                  by_cases heq : S = cn
                  · have hne : (S != cn) = false := by simp [heq]
                    have HA2 : Hid (∀ j : Nat, j < i + 1 → askB pl l j = true) := fun j hj => by
                      rcases Nat.lt_or_ge j i with h | h
                      · exact HA.out j h
                      · obtain rfl : j = i := by omega
                        rw [HAB.out]; exact decide_eq_true heq
                    clear heq
                    go_wp2_with fail
                    go_roundw
                    case rel => exact ⟨i + 1, by go_num, by omega, HA2, hk, hB⟩
                    case measure => simp [intOf]; omega
                  · have hne : (S != cn) = true := by simp [heq]
                    have HE : Hid (chkE L K l pl = 42) := by
                      show _ = _
                      rw [HE1.out, if_neg]
                      intro h
                      unfold madeB at h
                      have := List.all_eq_true.1 h i (List.mem_range.2 hlt)
                      rw [HAB.out] at this
                      exact heq (of_decide_eq_true this)
                    clear heq
                    go_wp2_with fail
                    go_ret
                    exact ⟨by rw [HE.out]; rfl, hB⟩
            · obtain rfl : i = l.length := by omega
              have HE : Hid (chkE L K l pl = 0) := by
                show _ = _
                rw [HE1.out, if_pos]
                unfold madeB
                rw [List.all_eq_true]
                exact fun j hj => HA.out j (List.mem_range.1 hj)
              have c0 := hk.cell_ 0 rfl
              have c1 := hk.cell_ 1 rfl
              have c2 := hk.cell_ 2 rfl
              go_wp2_with fail
              go_ret
              exact ⟨by rw [HE.out]; rfl, hB⟩
end Go.Proofs.YtecaaimaeaocbaaDoor
