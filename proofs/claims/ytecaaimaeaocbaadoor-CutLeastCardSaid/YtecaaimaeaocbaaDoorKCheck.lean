/- Check of the program: the walk. -/
import Derived.Test.YtecaaimaeaocbaaDoorKCheckP
import Derived.Test.YtecaaimaeaocbaaDoorKDear
namespace Go.Proofs.YtecaaimaeaocbaaDoor
open Go Go.RowKit
theorem shaped_n (L K : Int) (A : Option Addr) (c : Nat) (l : List Ask) (AB : Option Addr) (cB : Nat) (bs : List Bt) (pl : List Bat) (w : World) (hP : PlanAt w AB bs pl) (hl : pl.length ≤ 100000) {v : Bool} (h : shapedP l.length pl = v) :
    Calls Tryd.prog 86 #[.agg #[.int .i64 L, .int .i64 K, .slice A l.length c], .slice AB pl.length cB] w fun e w' => e = .returned (.bool v) ∧ Below w.heap.size w w' := by
  rw [← hP.len]
  exact shaped_is L K A c l AB cB bs w hP.row (by rw [hP.len]; exact hl) (by rw [shapedB_plan hP]; exact h)
theorem kfits_n (L K : Int) (A : Option Addr) (c : Nat) (l : List Ask) (AP : Option Addr) (cP : Nat) (ps : List Int) (w : World) (hS : Slc Ask.enc 2 w w.heap.size A l) (hP : Slc intEnc 1 w w.heap.size AP ps) (hv : VK L K l) (hpl : ps.length = l.length) {v : Bool} (h : fitsB L K l ps = v) :
    Calls Tryd.prog 58 #[.agg #[.int .i64 L, .int .i64 K, .slice A l.length c], .slice AP ps.length cP] w fun e w' => e = .returned (.bool v) ∧ Below w.heap.size w w' := by
  subst h; exact kfits_any L K A c l AP cP ps w hS hP hv hpl
set_option maxRecDepth 100000 in
set_option maxHeartbeats 4000000 in
theorem check_any (L K : Int) (A : Option Addr) (c : Nat) (l : List Ask) (AB : Option Addr) (cB : Nat) (bs : List Bt) (pl : List Bat) (w : World) (hS : Slc Ask.enc 2 w w.heap.size A l) (hP : PlanAt w AB bs pl) (hl : pl.length ≤ 100000) :
    Calls Tryd.prog 46 #[.agg #[.int .i64 L, .int .i64 K, .slice A l.length c], .slice AB pl.length cB] w fun e w' => e = .returned (.int .i64 (chkE L K l pl)) ∧ Below w.heap.size w w' := by
  have HD : Hid (chkE L K l pl = if validK L K l then if shapedP l.length pl then if pl.all (fun b => fitsB L K l b.ps) then if madeB pl l then 0 else 42 else 41 else 2 else 40) := rfl
  have hk := Blk.new w 24 #[.int .i64 L, .int .i64 K, .slice A l.length c]
  have hB := (Below.refl w.heap.size w).alloc (Nat.le_refl _) (.cells #[.int .i64 L, .int .i64 K, .slice A l.length c] 24)
  go_enter Tryd.func46, Tryd.ntmps46
  go_upto_region 1 with fail
  generalize w.alloc (.cells #[.int .i64 L, .int .i64 K, .slice A l.length c] 24) = W at *
  have c0 := hk.cell_ 0 rfl
  have c1 := hk.cell_ 1 rfl
  have c2 := hk.cell_ 2 rfl
  cases hv : validK L K l
  case false =>
    have HV := hide hv
    have HE : Hid (chkE L K l pl = 40) := by show _ = _; rw [HD.out, hv]; rfl
    clear hv
    go_wp2_with fail
    refine (kvalidB_is L K A c l _ (hS.on hB) HV.out).mono ?_
    rintro e W ⟨rfl, hb⟩
    clear c0 c1 c2
    replace hk := hk.below hb hk.lt
    replace hB := hB.trans (hb.mono hB.size)
    clear hb
    have c0 := hk.cell_ 0 rfl
    have c1 := hk.cell_ 1 rfl
    have c2 := hk.cell_ 2 rfl
    go_wp2_with fail
    go_ret
    exact ⟨by rw [HE.out]; rfl, hB⟩
  have HV := hide hv
  clear hv
  go_wp2_with fail
  refine (kvalidB_is L K A c l _ (hS.on hB) HV.out).mono ?_
  rintro e W ⟨rfl, hb⟩
  clear c0 c1 c2
  replace hk := hk.below hb hk.lt
  replace hB := hB.trans (hb.mono hB.size)
  clear hb
  have c0 := hk.cell_ 0 rfl
  have c1 := hk.cell_ 1 rfl
  have c2 := hk.cell_ 2 rfl
  cases hs : shapedP l.length pl
  case false =>
    have HSH := hide hs
    have HE : Hid (chkE L K l pl = 2) := by show _ = _; rw [HD.out, HV.out, hs]; rfl
    clear hs
    go_wp2_with fail
    refine (shaped_n L K A c l AB cB bs pl _ (hP.on hB) hl HSH.out).mono ?_
    rintro e W ⟨rfl, hb⟩
    clear c0 c1 c2
    replace hk := hk.below hb hk.lt
    replace hB := hB.trans (hb.mono hB.size)
    clear hb
    have c0 := hk.cell_ 0 rfl
    have c1 := hk.cell_ 1 rfl
    have c2 := hk.cell_ 2 rfl
    go_wp2_with fail
    go_ret
    exact ⟨by rw [HE.out]; rfl, hB⟩
  have HSH := hide hs
  have hpl := shaped_few hs
  clear hs
  go_wp2_with fail
  refine (shaped_n L K A c l AB cB bs pl _ (hP.on hB) hl HSH.out).mono ?_
  rintro e W ⟨rfl, hb⟩
  clear c0 c1 c2
  replace hk := hk.below hb hk.lt
  replace hB := hB.trans (hb.mono hB.size)
  clear hb
  have c0 := hk.cell_ 0 rfl
  have c1 := hk.cell_ 1 rfl
  have c2 := hk.cell_ 2 rfl
  have HE0 : Hid (chkE L K l pl = if pl.all (fun b => fitsB L K l b.ps) then if madeB pl l then 0 else 42 else 41) := by show _ = _; rw [HD.out, HV.out, HSH.out]; rfl
  clear HD
  have HVK := hide (validK_iff.1 HV.out)
  have hl8 : l.length ≤ 8 := HVK.out.few
  have hmk := mk_zeros l.length (by omega)
  have hwg := hk.lt
  have q_c0 := (hk.alloc (.cells (intJ (List.replicate l.length 0) []) 3)).cell_ 0 rfl
  have q_c1 := (hk.alloc (.cells (intJ (List.replicate l.length 0) []) 3)).cell_ 1 rfl
  have q_c2 := (hk.alloc (.cells (intJ (List.replicate l.length 0) []) 3)).cell_ 2 rfl
  go_upto_region 6 with fail
  clear q_c0 q_c1 q_c2
  clear c0 c1 c2
  have hM := Blk.new W 3 (intJ (List.replicate l.length 0) [])
  replace hk := hk.alloc (.cells (intJ (List.replicate l.length 0) []) 3)
  have hsz_g : (W.alloc (.cells (intJ (List.replicate l.length 0) []) 3)).heap.size = W.heap.size + 1 := by simp
  have gge := hB.size
  replace hB := hB.alloc hB.size (.cells (intJ (List.replicate l.length 0) []) 3)
  generalize hg : W.heap.size = g at *
  generalize W.alloc (.cells (intJ (List.replicate l.length 0) []) 3) = W at *
  clear hg
  have c0 := hk.cell_ 0 rfl
  have c1 := hk.cell_ 1 rfl
  have c2 := hk.cell_ 2 rfl
  clear hmk gge
  go_wp2_with fail
  clear c0 c1 c2
  go_loopw [27] (fun y W => ∃ (i : Nat) (M : List Int), y = .int .i64 i ∧ i ≤ pl.length ∧ M.length = l.length ∧ Hid ((∀ (j : Nat) v, M[j]? = some v → v = totI (pl.take i) j) ∧ (∀ (j : Nat) b, j < i → pl[j]? = some b → fitsB L K l b.ps = true)) ∧ Blk W w.heap.size 24 #[.int .i64 L, .int .i64 K, .slice A l.length c] ∧ Blk W g 3 (intJ M []) ∧ Below w.heap.size w W) (fun y _ => pl.length - (intOf y).toNat)
  case atStart => exact ⟨0, List.replicate l.length 0, rfl, Nat.zero_le _, by simp, hide ⟨fun j v h => by rw [List.getElem?_replicate] at h; split at h <;> simp at h; rw [← h]; rfl, fun j b hj => absurd hj (Nat.not_lt_zero _)⟩, hk, hM, hB⟩
  case round =>
    clear hk hM hB
    obtain ⟨W, rfl⟩ : ∃ W : World, W = wr := ⟨_, rfl⟩
    obtain ⟨i, M, rfl, hi, hMl, HI, hk, hM, hB⟩ := hrel
    by_cases hlt : i < pl.length
    · obtain ⟨p, b, off, A', c', hp, hA, hbl, d0, d1, hQ0⟩ := plan_at hP hlt
      replace d0 := (hB.cell (p := ⟨b, off + i * 2, none⟩) hbl).trans d0
      replace d1 := (hB.cell (p := ⟨b, off + i * 2 + 1, none⟩) hbl).trans d1
      have hii : (i : Int) < (pl.length : Int) := by omega
      obtain ⟨hpt, hpn⟩ := shaped_at HSH.out hp
      have HPN := hide hpn
      have HX := hide hp
      have HTL := hide (totI_take_low (n := l.length) (L := L) (K := K) (l := l) HSH.out HI.out.2)
      clear hp hpn
      subst hA
      have c0 := hk.cell_ 0 rfl
      have c1 := hk.cell_ 1 rfl
      have c2 := hk.cell_ 2 rfl
      have hbxg := hM.lt
      have q_c0 := (hk.alloc (.cells #[.int .i64 p.t, .slice A' p.ps.length c'] 73)).cell_ 0 rfl
      have q_c1 := (hk.alloc (.cells #[.int .i64 p.t, .slice A' p.ps.length c'] 73)).cell_ 1 rfl
      have q_c2 := (hk.alloc (.cells #[.int .i64 p.t, .slice A' p.ps.length c'] 73)).cell_ 2 rfl
      go_upto_region 9 with fail
      clear q_c0 q_c1 q_c2
      clear c0 c1 c2
      have hm := Blk.new W 73 #[.int .i64 p.t, .slice A' p.ps.length c']
      replace hk := hk.alloc (.cells #[.int .i64 p.t, .slice A' p.ps.length c'] 73)
      replace hM := hM.alloc (.cells #[.int .i64 p.t, .slice A' p.ps.length c'] 73)
      have hsz_bx : (W.alloc (.cells #[.int .i64 p.t, .slice A' p.ps.length c'] 73)).heap.size = W.heap.size + 1 := by simp
      have bxge := hB.size
      replace hB := hB.alloc hB.size (.cells #[.int .i64 p.t, .slice A' p.ps.length c'] 73)
      generalize hbx : W.heap.size = bx at *
      generalize W.alloc (.cells #[.int .i64 p.t, .slice A' p.ps.length c'] 73) = W at *
      clear hbx
      have c0 := hk.cell_ 0 rfl
      have c1 := hk.cell_ 1 rfl
      have c2 := hk.cell_ 2 rfl
      have m0 := hm.cell_ 0 rfl
      have m1 := hm.cell_ 1 rfl
      clear d0 d1
      cases q1 : fitsB L K l p.ps
      case false =>
        have HE : Hid (chkE L K l pl = 41) := by
          show _ = _
          rw [HE0.out, if_neg]
          intro h
          have := all_at.1 h i p HX.out
          rw [q1] at this; exact absurd this (by simp)
        have HQ := hide q1
        clear q1
        go_wp2_with fail
        refine (kfits_n L K A c l A' c' p.ps _ (hS.on hB) (hQ0.on hB) HVK.out HPN.out HQ.out).mono ?_
        rintro e W ⟨rfl, hb⟩
        clear c0 c1 c2 m0 m1
        replace hk := hk.below hb hk.lt
        replace hM := hM.below hb hM.lt
        replace hm := hm.below hb hm.lt
        replace hB := hB.trans (hb.mono hB.size)
        clear hb
        have c0 := hk.cell_ 0 rfl
        have c1 := hk.cell_ 1 rfl
        have c2 := hk.cell_ 2 rfl
        have m0 := hm.cell_ 0 rfl
        have m1 := hm.cell_ 1 rfl
        go_wp2_with fail
        go_ret
        exact ⟨by rw [HE.out]; rfl, hB⟩
      have HQ := hide q1
      have HPO := hide (fits_ok q1)
      clear q1
      go_wp2_with fail
      refine (kfits_n L K A c l A' c' p.ps _ (hS.on hB) (hQ0.on hB) HVK.out HPN.out HQ.out).mono ?_
      rintro e W ⟨rfl, hb⟩
      clear c0 c1 c2 m0 m1
      replace hk := hk.below hb hk.lt
      replace hM := hM.below hb hM.lt
      replace hm := hm.below hb hm.lt
      replace hB := hB.trans (hb.mono hB.size)
      clear hb
      have c0 := hk.cell_ 0 rfl
      have c1 := hk.cell_ 1 rfl
      have c2 := hk.cell_ 2 rfl
      have m0 := hm.cell_ 0 rfl
      have m1 := hm.cell_ 1 rfl
      go_wp2_with fail
      clear c0 c1 c2 m0 m1
      go_loopw [39] (fun y W => ∃ (j : Nat) (M : List Int), y = .int .i64 j ∧ j ≤ p.ps.length ∧ M.length = l.length ∧ Hid (∀ (q : Nat) v, M[q]? = some v → v = totI (pl.take (if q < j then i + 1 else i)) q) ∧ Blk W w.heap.size 24 #[.int .i64 L, .int .i64 K, .slice A l.length c] ∧ Blk W g 3 (intJ M []) ∧ Blk W bx 73 #[.int .i64 p.t, .slice A' p.ps.length c'] ∧ Below w.heap.size w W) (fun y _ => p.ps.length - (intOf y).toNat)
      case atStart => exact ⟨0, M, rfl, Nat.zero_le _, hMl, hide fun q v h => by rw [if_neg (Nat.not_lt_zero _)]; exact HI.out.1 q v h, hk, hM, hm, hB⟩
      case round =>
        clear hk hM hm hB hMl
        obtain ⟨W, rfl⟩ : ∃ W : World, W = wr := ⟨_, rfl⟩
        obtain ⟨j, M, rfl, hj, hMl, HM, hk, hM, hm, hB⟩ := hrel
        have hp8 : p.ps.length ≤ 8 := by rw [HPN.out]; exact hl8
        by_cases hjl : j < p.ps.length
        · obtain ⟨v, b2, off2, hv, hA2, hb2, hc2⟩ := ints_at' hQ0 hjl
          replace hc2 := (hB.cell (p := ⟨b2, off2 + j, none⟩) hb2).trans hc2
          have hjj : (j : Int) < (p.ps.length : Int) := by omega
          have hvo := HPO.out v (List.mem_of_getElem? hv)
          have hjm : j < M.length := by rw [hMl, ← HPN.out]; exact hjl
          have hjm' : (j : Int) < (l.length : Int) := by omega
          obtain ⟨mv, hm0⟩ : ∃ mv, M[j]? = some mv := ⟨_, List.getElem?_eq_getElem hjm⟩
          have hmve := HM.out j mv hm0
          rw [if_neg (Nat.lt_irrefl _)] at hmve
          have hmvb := HTL.out j
          rw [← hmve] at hmvb
          have hpr := term_ok hpt hvo
          obtain ⟨pr, hpre⟩ : ∃ pr, p.t * v = pr := ⟨_, rfl⟩
          rw [hpre] at hpr
          have e1 : IntKind.i64.wrap (p.t * v) = pr := by rw [hpre]; exact IntWalk.i64_in _ (by omega)
          have HM2 : Hid (∀ (q : Nat) u, (M.set j (mv + pr))[q]? = some u → u = totI (pl.take (if q < j + 1 then i + 1 else i)) q) := fun q u hu => by
            rw [List.getElem?_set] at hu
            by_cases hqj : j = q
            · subst hqj
              rw [if_pos rfl, if_pos hjm] at hu
              injection hu with hu
              rw [if_pos (by omega), totI_snoc HX.out, ← hmve, getD_of hv, hpre]; exact hu.symm
            · rw [if_neg hqj] at hu
              rw [HM.out q u hu]
              by_cases hq2 : q < j
              · rw [if_pos hq2, if_pos (by omega)]
              · rw [if_neg hq2, if_neg (by omega)]
          have t8 := hM.cell_ j (intJ_get hm0)
          have HSZ := hide (intJ_lt (l := M) (js := []) (i := j) hjm)
          have HJM := hide hjm
          have hsl : (M.set j (mv + pr)).length = l.length := by rw [List.length_set]; exact hMl
          have HSL := hide hsl
          clear hv hm0 hmve hpre hjm hsl
          subst hA2
          have c0 := hk.cell_ 0 rfl
          have c1 := hk.cell_ 1 rfl
          have c2 := hk.cell_ 2 rfl
          have m0 := hm.cell_ 0 rfl
          have m1 := hm.cell_ 1 rfl
          go_wp2_with fail
          refine wp_region_quiet_tail (C := fun w' => ∃ u : Since W, w' = u.w) 10 (by kernel_rfl) (by kernel_rfl) (Since.start W) ?_
          simp only [List.take_succ_cons, List.take_zero, List.drop_succ_cons, List.drop_zero]
          have y_c0 := Since.cell c0
          have y_c1 := Since.cell c1
          have y_c2 := Since.cell c2
          have y_m0 := Since.cell m0
          have y_m1 := Since.cell m1
          have y_t8 := Since.cell t8
          clear c0 c1 c2 m0 m1
          repeat (go_big_quiet_step ((fail)))
          refine wpQuiet_nil ?_
          rintro W ⟨⟨_, hb⟩, rfl⟩
          try dsimp only at hb ⊢
          replace t8 : W.cell? _ = _ := y_t8 ⟨W, hb⟩
          clear y_c0 y_c1 y_c2 y_m0 y_m1 y_t8
          replace hk := hk.below hb hk.lt
          replace hM := hM.below hb hM.lt
          replace hm := hm.below hb hm.lt
          replace hB := hB.trans (hb.mono hB.size)
          clear hb
          have c0 := hk.cell_ 0 rfl
          have c1 := hk.cell_ 1 rfl
          have c2 := hk.cell_ 2 rfl
          have m0 := hm.cell_ 0 rfl
          have m1 := hm.cell_ 1 rfl
          refine wpList_store_at rfl 3 _ _ rfl (.int .i64 (mv + pr)) hM rfl rfl (by kernel_rfl) rfl HSZ.out rfl ?_
          intro W2 hM2 hcc
          rw [intJ_set HJM.out] at hM2
          clear c0 c1 c2 m0 m1
          replace hk := hk.chg1 hcc (by omega)
          replace hm := hm.chg1 hcc (by omega)
          replace hB := hB.trans (hcc.below1 hB.size (by omega))
          clear hM hcc t8 hc2
          go_wp2_with fail
          go_roundw
          case rel => exact ⟨j + 1, M.set j (mv + pr), by go_num, by omega, HSL.out, HM2, hk, hM2, hm, hB⟩
          case measure => simp [intOf]; omega
        · obtain rfl : j = p.ps.length := by omega
          have HI2 : Hid ((∀ (j : Nat) v, M[j]? = some v → v = totI (pl.take (i + 1)) j) ∧ (∀ (j : Nat) b, j < i + 1 → pl[j]? = some b → fitsB L K l b.ps = true)) := by
            refine ⟨fun q v h => ?_, fun q b' hq hb' => ?_⟩
            · have := HM.out q v h
              rw [if_pos (by have := (List.getElem?_eq_some_iff.1 h).1; rw [HPN.out]; omega)] at this
              exact this
            · rcases Nat.lt_or_ge q i with h | h
              · exact HI.out.2 q b' h hb'
              · obtain rfl : q = i := by omega
                have h2 := HX.out
                rw [hb'] at h2
                injection h2 with h2
                subst h2; exact HQ.out
          have c0 := hk.cell_ 0 rfl
          have c1 := hk.cell_ 1 rfl
          have c2 := hk.cell_ 2 rfl
          have m0 := hm.cell_ 0 rfl
          have m1 := hm.cell_ 1 rfl
          go_wp2_with fail
          go_roundw
          case rel => exact ⟨i + 1, M, by go_num, by omega, hMl, HI2, hk, hM, hB⟩
          case measure => simp [intOf]; omega
    · obtain rfl : i = pl.length := by omega
      have HT : Hid (∀ (j : Nat) v, M[j]? = some v → v = totI pl j) := fun j v h => by have := HI.out.1 j v h; rw [List.take_length] at this; exact this
      have HE1 : Hid (chkE L K l pl = if madeB pl l then 0 else 42) := by
        show _ = _
        rw [HE0.out, if_pos (all_at.2 fun j b hb => HI.out.2 j b (List.getElem?_eq_some_iff.1 hb).1 hb)]
      clear HE0 HI
      have c0 := hk.cell_ 0 rfl
      have c1 := hk.cell_ 1 rfl
      have c2 := hk.cell_ 2 rfl
      go_wp2_with fail
      clear c0 c1 c2
      go_loopw [59] (fun y W => ∃ (i : Nat), y = .int .i64 i ∧ i ≤ l.length ∧ Hid (∀ j : Nat, j < i → askB pl l j = true) ∧ Blk W w.heap.size 24 #[.int .i64 L, .int .i64 K, .slice A l.length c] ∧ Blk W g 3 (intJ M []) ∧ Below w.heap.size w W) (fun y _ => l.length - (intOf y).toNat)
      case atStart => exact ⟨0, rfl, Nat.zero_le _, hide fun j hj => absurd hj (Nat.not_lt_zero _), hk, hM, hB⟩
      case round =>
        clear hk hM hB
        obtain ⟨W, rfl⟩ : ∃ W : World, W = wr := ⟨_, rfl⟩
        obtain ⟨i, rfl, hi, HA, hk, hM, hB⟩ := hrel
        by_cases hlt : i < l.length
        · obtain ⟨⟨ln, cn⟩, b, off, hx, hA, _, d0, d1⟩ := ask_at (hS.below hB) hlt
          have hii : (i : Int) < (l.length : Int) := by omega
          obtain ⟨mv, hm0⟩ : ∃ mv, M[i]? = some mv := ⟨_, List.getElem?_eq_getElem (by omega)⟩
          have HAB : Hid (askB pl l i = decide (mv = cn)) := by show _ = _; unfold askB; rw [hx, HT.out i mv hm0]; rfl
          dsimp only at d0 d1
          clear hx
          subst hA
          have c0 := hk.cell_ 0 rfl
          have c1 := hk.cell_ 1 rfl
          have c2 := hk.cell_ 2 rfl
          have q_c0 := (hk.alloc (.cells #[.int .i64 ln, .int .i64 cn] 45)).cell_ 0 rfl
          have q_c1 := (hk.alloc (.cells #[.int .i64 ln, .int .i64 cn] 45)).cell_ 1 rfl
          have q_c2 := (hk.alloc (.cells #[.int .i64 ln, .int .i64 cn] 45)).cell_ 2 rfl
          go_upto_region 20 with fail
          clear q_c0 q_c1 q_c2
          clear c0 c1 c2
          have hm := Blk.new W 45 #[.int .i64 ln, .int .i64 cn]
          replace hk := hk.alloc (.cells #[.int .i64 ln, .int .i64 cn] 45)
          replace hM := hM.alloc (.cells #[.int .i64 ln, .int .i64 cn] 45)
          have hsz_bx : (W.alloc (.cells #[.int .i64 ln, .int .i64 cn] 45)).heap.size = W.heap.size + 1 := by simp
          have bxge := hB.size
          replace hB := hB.alloc hB.size (.cells #[.int .i64 ln, .int .i64 cn] 45)
          generalize hbx : W.heap.size = bx at *
          generalize W.alloc (.cells #[.int .i64 ln, .int .i64 cn] 45) = W at *
          clear hbx
          have c0 := hk.cell_ 0 rfl
          have c1 := hk.cell_ 1 rfl
          have c2 := hk.cell_ 2 rfl
          have m0 := hm.cell_ 0 rfl
          have m1 := hm.cell_ 1 rfl
          clear d0 d1
          have t8 := hM.cell_ i (intJ_get hm0)
          clear hm0
          by_cases heq : mv = cn
          · have hne : (mv != cn) = false := by simp [heq]
            have HA2 : Hid (∀ j : Nat, j < i + 1 → askB pl l j = true) := fun j hj => by
              rcases Nat.lt_or_ge j i with h | h
              · exact HA.out j h
              · obtain rfl : j = i := by omega
                rw [HAB.out]; exact decide_eq_true heq
            clear heq
            go_wp2_with fail
            refine wp_region_quiet (C := fun w' => ∃ u : Since W, w' = u.w) (by kernel_rfl) (by kernel_rfl) (Since.start W) ?_
            dsimp only
            have y_c0 := Since.cell c0
            have y_c1 := Since.cell c1
            have y_c2 := Since.cell c2
            have y_m0 := Since.cell m0
            have y_m1 := Since.cell m1
            have y_t8 := Since.cell t8
            clear c0 c1 c2 m0 m1
            repeat (go_big_quiet_step ((fail)))
            refine wpQuiet_nil ?_
            rintro W ⟨⟨_, hb⟩, rfl⟩
            try dsimp only at hb ⊢
            replace t8 : W.cell? _ = _ := y_t8 ⟨W, hb⟩
            clear y_c0 y_c1 y_c2 y_m0 y_m1 y_t8
            replace hk := hk.below hb hk.lt
            replace hM := hM.below hb hM.lt
            replace hm := hm.below hb hm.lt
            replace hB := hB.trans (hb.mono hB.size)
            clear hb
            have c0 := hk.cell_ 0 rfl
            have c1 := hk.cell_ 1 rfl
            have c2 := hk.cell_ 2 rfl
            have m0 := hm.cell_ 0 rfl
            have m1 := hm.cell_ 1 rfl
            go_wp2_with fail
            go_roundw
            case rel => exact ⟨i + 1, by go_num, by omega, HA2, hk, hM, hB⟩
            case measure => simp [intOf]; omega
          · have hne : (mv != cn) = true := by simp [heq]
            have HE : Hid (chkE L K l pl = 42) := by
              show _ = _
              rw [HE1.out, if_neg]
              intro h
              unfold madeB at h
              have := List.all_eq_true.1 h i (List.mem_range.2 hlt)
              rw [HAB.out] at this
              exact heq (of_decide_eq_true this)
            clear heq
            go_wp2_with fail
            refine wp_region_quiet (C := fun w' => ∃ u : Since W, w' = u.w) (by kernel_rfl) (by kernel_rfl) (Since.start W) ?_
            dsimp only
            have y_c0 := Since.cell c0
            have y_c1 := Since.cell c1
            have y_c2 := Since.cell c2
            have y_m0 := Since.cell m0
            have y_m1 := Since.cell m1
            have y_t8 := Since.cell t8
            clear c0 c1 c2 m0 m1
            repeat (go_big_quiet_step ((fail)))
            refine wpQuiet_nil ?_
            rintro W ⟨⟨_, hb⟩, rfl⟩
            try dsimp only at hb ⊢
            replace t8 : W.cell? _ = _ := y_t8 ⟨W, hb⟩
            clear y_c0 y_c1 y_c2 y_m0 y_m1 y_t8
            replace hk := hk.below hb hk.lt
            replace hM := hM.below hb hM.lt
            replace hm := hm.below hb hm.lt
            replace hB := hB.trans (hb.mono hB.size)
            clear hb
            have c0 := hk.cell_ 0 rfl
            have c1 := hk.cell_ 1 rfl
            have c2 := hk.cell_ 2 rfl
            have m0 := hm.cell_ 0 rfl
            have m1 := hm.cell_ 1 rfl
            go_wp2_with fail
            go_ret
            exact ⟨by rw [HE.out]; rfl, hB⟩
        · obtain rfl : i = l.length := by omega
          have HE : Hid (chkE L K l pl = 0) := by
            show _ = _
            rw [HE1.out, if_pos]
            unfold madeB
            rw [List.all_eq_true]
            exact fun j hj => HA.out j (List.mem_range.1 hj)
          have c0 := hk.cell_ 0 rfl
          have c1 := hk.cell_ 1 rfl
          have c2 := hk.cell_ 2 rfl
          go_wp2_with fail
          go_ret
          exact ⟨by rw [HE.out]; rfl, hB⟩
end Go.Proofs.YtecaaimaeaocbaaDoor
