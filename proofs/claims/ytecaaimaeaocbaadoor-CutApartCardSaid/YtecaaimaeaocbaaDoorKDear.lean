/- dearest of package cut: the walk. -/
import Derived.Test.YtecaaimaeaocbaaDoorKDearP
import Derived.Test.YtecaaimaeaocbaaDoorKClone
namespace Go.Proofs.YtecaaimaeaocbaaDoor
open Go Go.RowKit
theorem mk_zeros (n : Nat) (hn : n ≤ 100000) (w : World) : (Instr.makeSlice 25 (.int .i64 n) (.int .i64 n)).run Tryd.prog w = .ok (.slice (some ⟨w.heap.size, 0, none⟩) n n) (w.alloc (.cells (intJ (List.replicate n 0) []) 3)) := by
  have := run_make1 (P := Tryd.prog) (bytes := 8) (z := .int .i64 0) Tryd.underlying25 (by kernel_rfl) rfl (by omega) n (by omega) w
  have e : (List.replicate n (Value.int .i64 0)).toArray = intJ (List.replicate n 0) [] := by unfold intJ; simp
  rw [← e]; exact this
theorem getD_of {l : List Int} {i : Nat} {v : Int} (h : l[i]? = some v) : l.getD i 0 = v := by rw [List.getD_eq_getElem?_getD, h]; rfl
set_option maxRecDepth 100000 in
set_option maxHeartbeats 8000000 in
theorem dearest_any (L K : Int) (A : Option Addr) (c : Nat) (l : List Ask) (AP : Option Addr) (cP : Nat) (ps : List Int) (w : World) (hS : Slc Ask.enc 2 w w.heap.size A l) (hP : Slc intEnc 1 w w.heap.size AP ps) (hv : VK L K l) (hpl : ps.length = l.length) (hpb : ∀ p ∈ ps, 0 ≤ p ∧ p ≤ 1000000) :
    Calls Tryd.prog 56 #[.agg #[.int .i64 L, .int .i64 K, .slice A l.length c], .slice AP ps.length cP] w fun e w' => e = .returned (.int .i64 (dearF L K l ps)) ∧ Below w.heap.size w w' := by
  obtain ⟨vL, vK, vF, vA⟩ := hv
  have HVA := hide vA
  have HPB := hide hpb
  have HPL := hide hpl
  clear vA hpb hpl
  obtain ⟨R, hR⟩ : ∃ R : Nat, (R : Int) = L + K := ⟨(L + K).toNat, by omega⟩
  have HD : Hid (dearF L K l ps = (bestL K l ps (List.replicate (R + 1) 0)).getD R 0) := by
    show _ = _
    unfold dearF
    rw [show (L + K).toNat = R by omega]
  have hR2 : R ≤ 1020 := by omega
  have hmk := mk_zeros (R + 1) (by omega)
  rw [show ((R + 1 : Nat) : Int) = L + K + 1 by omega] at hmk
  have hk := (Blk.new w 24 #[.int .i64 L, .int .i64 K, .slice A l.length c]).alloc (.cells (intJ (List.replicate (R + 1) 0) []) 3)
  have hb := Blk.new (w.alloc (.cells #[.int .i64 L, .int .i64 K, .slice A l.length c] 24)) 3 (intJ (List.replicate (R + 1) 0) [])
  rw [show (w.alloc (.cells #[.int .i64 L, .int .i64 K, .slice A l.length c] 24)).heap.size = w.heap.size + 1 by simp] at hb
  have hB := ((Below.refl w.heap.size w).alloc (Nat.le_refl _) (.cells #[.int .i64 L, .int .i64 K, .slice A l.length c] 24)).alloc (by simp) (.cells (intJ (List.replicate (R + 1) 0) []) 3)
  have c0 := (Blk.new w 24 #[.int .i64 L, .int .i64 K, .slice A l.length c]).cell_ 0 (v := .int .i64 L) rfl
  have c1 := (Blk.new w 24 #[.int .i64 L, .int .i64 K, .slice A l.length c]).cell_ 1 (v := .int .i64 K) rfl
  go_enter Tryd.func56, Tryd.ntmps56
  go_upto_region 2 with fail
  clear c0 c1 hmk
  generalize (w.alloc (.cells #[.int .i64 L, .int .i64 K, .slice A l.length c] 24)).alloc (.cells (intJ (List.replicate (R + 1) 0) []) 3) = W at *
  have HRR := hide hR
  clear hR
  have c0 := hk.cell_ 0 rfl
  have c1 := hk.cell_ 1 rfl
  have c2 := hk.cell_ 2 rfl
  go_wp2_with fail
  clear c0 c1 c2
  go_loopw [5, 22] (fun bv y W => ∃ (i g cap : Nat) (js : List Value) (b : List Int), bv = .slice (some ⟨g, 0, none⟩) (R + 1) cap ∧ y = .int .i64 i ∧ i ≤ l.length ∧ b.length = R + 1 ∧ w.heap.size < g ∧ Blk W g 3 (intJ b js) ∧ Hid (Low b (i * 50000000) ∧ bestL K l ps (List.replicate (R + 1) 0) = bestL K (l.drop i) (ps.drop i) b) ∧ Blk W w.heap.size 24 #[.int .i64 L, .int .i64 K, .slice A l.length c] ∧ Below w.heap.size w W) (fun bv y _ => l.length - (intOf y).toNat)
  case atStart => exact ⟨0, w.heap.size + 1, R + 1, [], List.replicate (R + 1) 0, rfl, rfl, Nat.zero_le _, by simp, by omega, hb, hide ⟨by simpa using low_zero (R + 1), rfl⟩, hk, hB⟩
  case round =>
    clear hk hB hb
    obtain ⟨W, rfl⟩ : ∃ W : World, W = wr := ⟨_, rfl⟩
    obtain ⟨i, g, cap, js, b, rfl, rfl, hi, hbl, hg, hbb, HT, hk, hB⟩ := hrel
    by_cases hlt : i < l.length
    · obtain ⟨⟨ln, cn⟩, bo, off, hx, hA, _, d0, d1⟩ := ask_at (hS.below hB) hlt
      have hii : (i : Int) < (l.length : Int) := by omega
      have hxo := HVA.out _ (List.mem_of_getElem? hx)
      dsimp only at d0 d1 hxo
      obtain ⟨cnt, rfl⟩ : ∃ cnt : Nat, cn = (cnt : Int) := ⟨cn.toNat, by omega⟩
      obtain ⟨p, bq, offq, hp, hAP, _, hcp⟩ := ints_at' (hP.below hB) (show i < ps.length by rw [HPL.out]; exact hlt)
      have hpo := HPB.out p (List.mem_of_getElem? hp)
      have hR := HRR.out
      obtain ⟨wd, hwd⟩ : ∃ wd : Nat, (wd : Int) = ln + K := ⟨(ln + K).toNat, by omega⟩
      have HST : Hid (bestL K (l.drop i) (ps.drop i) b = bestL K (l.drop (i + 1)) (ps.drop (i + 1)) (rowK b wd p cnt)) := by
        show _ = _
        rw [bestL_step hx hp, show (ln + K).toNat = wd by omega, Int.toNat_natCast]
      have hcnt2 : cnt ≤ 50 := by omega
      have hwd2 : 1 ≤ wd ∧ wd ≤ 1020 := by omega
      clear hR
      have hip : (i : Int) < (ps.length : Int) := by rw [HPL.out]; exact hii
      have HP := hide hp
      clear hx hp hcp
      subst hA hAP
      have c0 := hk.cell_ 0 rfl
      have c1 := hk.cell_ 1 rfl
      have c2 := hk.cell_ 2 rfl
      have q_c0 := (hk.alloc (.cells #[.int .i64 ln, .int .i64 cnt] 45)).cell_ 0 rfl
      have q_c1 := (hk.alloc (.cells #[.int .i64 ln, .int .i64 cnt] 45)).cell_ 1 rfl
      have q_c2 := (hk.alloc (.cells #[.int .i64 ln, .int .i64 cnt] 45)).cell_ 2 rfl
      go_upto_region 5 with fail
      clear q_c0 q_c1 q_c2
      clear c0 c1 c2
      have hm := Blk.new W 45 #[.int .i64 ln, .int .i64 cnt]
      replace hk := hk.alloc (.cells #[.int .i64 ln, .int .i64 cnt] 45)
      replace hbb := hbb.alloc (.cells #[.int .i64 ln, .int .i64 cnt] 45)
      have hsz_bx : (W.alloc (.cells #[.int .i64 ln, .int .i64 cnt] 45)).heap.size = W.heap.size + 1 := by simp
      have bxge := hB.size
      replace hB := hB.alloc hB.size (.cells #[.int .i64 ln, .int .i64 cnt] 45)
      generalize hbx : W.heap.size = bx at *
      generalize W.alloc (.cells #[.int .i64 ln, .int .i64 cnt] 45) = W at *
      clear hbx
      have c0 := hk.cell_ 0 rfl
      have c1 := hk.cell_ 1 rfl
      have c2 := hk.cell_ 2 rfl
      have m0 := hm.cell_ 0 rfl
      have m1 := hm.cell_ 1 rfl
      clear d0 d1
      go_upto_region 6 with fail
      rw [← hwd]
      have HWD := hide hwd
      clear hwd hxo
      have hgl : g < W.heap.size := hbb.lt
      have hbxl : bx < W.heap.size := hm.lt
      go_wp2_with fail
      refine (cloneInt_n (some ⟨g, 0, none⟩) cap b _ hbl (by omega) (intJ_slc hbb)).mono ?_
      rintro e W ⟨A9, c9, rfl, hb, S9, hO9⟩
      clear c0 c1 c2 m0 m1
      replace hk := hk.below hb hk.lt
      replace hbb := hbb.below hb hbb.lt
      replace hm := hm.below hb hm.lt
      replace hB := hB.trans (hb.mono hB.size)
      clear hb
      have c0 := hk.cell_ 0 rfl
      have c1 := hk.cell_ 1 rfl
      have c2 := hk.cell_ 2 rfl
      have m0 := hm.cell_ 0 rfl
      have m1 := hm.cell_ 1 rfl
      obtain ⟨g2, js2, rfl, hg2, hn⟩ := intJ_own (hO9 (by rintro rfl; simp at hbl)) (by rintro rfl; simp at hbl)
      have hg2a : g < g2 := by omega
      have hg2b : bx < g2 := by omega
      have hg2c : w.heap.size < g2 := by omega
      rw [hbl]
      clear S9 hO9 hg2 hgl hbxl hsz_bx
      go_wp2_with fail
      clear c0 c1 c2 m0 m1
      go_loopw [36] (fun y W => ∃ (r : Nat) (N : List Int), y = .int .i64 r ∧ r ≤ R + 1 ∧ N.length = R + 1 ∧ Hid (RowTo b wd p cnt r N) ∧ Blk W w.heap.size 24 #[.int .i64 L, .int .i64 K, .slice (some ⟨bo, off, none⟩) l.length c] ∧ Blk W g 3 (intJ b js) ∧ Blk W bx 45 #[.int .i64 ln, .int .i64 cnt] ∧ Blk W g2 3 (intJ N js2) ∧ Below w.heap.size w W) (fun y _ => R + 1 - (intOf y).toNat)
      case atStart => exact ⟨0, b, rfl, Nat.zero_le _, hbl, hide (RowTo.start rfl), hk, hbb, hm, hn, hB⟩
      case round =>
        clear hk hB hbb hm hn
        obtain ⟨W, rfl⟩ : ∃ W : World, W = wr := ⟨_, rfl⟩
        obtain ⟨r, N, rfl, hr, hNl, HN, hk, hbb, hm, hn, hB⟩ := hrel
        by_cases hrl : r < R + 1
        · have hri : (r : Int) < (R : Int) + 1 := by omega
          go_wp2_with fail
          go_loopw [11] (fun y W => ∃ (k : Nat) (kk : Int) (N : List Int), y = .int .i64 kk ∧ Hid (kk = (k : Int) + 1) ∧ (1 ≤ kk ∧ kk ≤ 51) ∧ k ≤ cnt ∧ N.length = R + 1 ∧ Hid (RowAtK b wd p cnt r k N) ∧ Blk W w.heap.size 24 #[.int .i64 L, .int .i64 K, .slice (some ⟨bo, off, none⟩) l.length c] ∧ Blk W g 3 (intJ b js) ∧ Blk W bx 45 #[.int .i64 ln, .int .i64 cnt] ∧ Blk W g2 3 (intJ N js2) ∧ Below w.heap.size w W) (fun y _ => cnt + 1 - (intOf y).toNat)
          case atStart => exact ⟨0, 1, N, rfl, hide rfl, ⟨by omega, by omega⟩, Nat.zero_le _, hNl, hide HN.out.at_, hk, hbb, hm, hn, hB⟩
          case round =>
            clear hk hB hbb hm hn HN hNl
            clear N
            obtain ⟨W, rfl⟩ : ∃ W : World, W = wr := ⟨_, rfl⟩
            obtain ⟨k, kk, N, rfl, HKK, hk1, hkc, hNl, HN, hk, hbb, hm, hn, hB⟩ := hrel
            have c0 := hk.cell_ 0 rfl
            have c1 := hk.cell_ 1 rfl
            have c2 := hk.cell_ 2 rfl
            have m0 := hm.cell_ 0 rfl
            have m1 := hm.cell_ 1 rfl
            by_cases hle : kk ≤ (cnt : Int)
            · obtain ⟨m, hm0, hm1, hm2⟩ : ∃ m : Nat, kk * (wd : Int) = (m : Int) ∧ m = (k + 1) * wd ∧ m ≤ 100000 := by
                refine ⟨(k + 1) * wd, ?_, rfl, ?_⟩
                · rw [HKK.out]; push_cast; rfl
                · have := HKK.out
                  calc (k + 1) * wd ≤ 51 * 1020 := Nat.mul_le_mul (by omega) (by omega)
                    _ ≤ 100000 := by omega
              have e1 : IntKind.i64.wrap (kk * (wd : Int)) = (m : Int) := by rw [hm0]; exact IntWalk.i64_in _ (by omega)
              have HM := hide hm1
              clear hm0 hm1
              by_cases hmr : m ≤ r
              · obtain ⟨q, hq⟩ : ∃ q : Nat, (r : Int) - (m : Int) = (q : Int) := ⟨r - m, by omega⟩
                have hmr' : (m : Int) ≤ (r : Int) := by omega
                have hqi : (q : Int) < (R : Int) + 1 := by omega
                obtain ⟨v0, hv0⟩ : ∃ v, N[r]? = some v := ⟨_, List.getElem?_eq_getElem (by omega)⟩
                obtain ⟨v2, hv2⟩ : ∃ v, b[q]? = some v := ⟨_, List.getElem?_eq_getElem (by omega)⟩
                obtain ⟨p', bq', offq', hp', hAP', _, hcp⟩ := ints_at' (hP.below hB) (show i < ps.length by omega)
                obtain ⟨rfl, rfl⟩ : bq = bq' ∧ offq = offq' := by simpa using hAP'
                obtain rfl : p' = p := by have h := HP.out; rw [hp'] at h; injection h
                obtain ⟨pp, hpp, hpp2⟩ : ∃ pp : Int, kk * p' = pp ∧ 0 ≤ pp ∧ pp ≤ 51000000 := by
                  refine ⟨_, rfl, Int.mul_nonneg (by omega) hpo.1, ?_⟩
                  calc kk * p' ≤ 51 * 1000000 := Int.mul_le_mul hk1.2 hpo.2 hpo.1 (by omega)
                    _ ≤ 51000000 := by omega
                have e4 : IntKind.i64.wrap (kk * p') = pp := by rw [hpp]; exact IntWalk.i64_in _ (by omega)
                have hv2b := HT.out.1 q v2 hv2
                have hv2c : 0 ≤ v2 ∧ v2 ≤ 500000000 := by omega
                have hv0e := HN.out r v0 hv0
                rw [if_neg (by omega), if_pos rfl] at hv0e
                have htk : topK b wd p' r (k + 1) = max v0 (v2 + pp) := by
                  rw [topK_more (by rw [← HM.out]; exact hmr), ← hv0e, ← HM.out, show r - m = q by omega, getD_of hv2, ← hpp, HKK.out]
                  push_cast; rfl
                have t8 := hbb.cell_ q (intJ_get hv2)
                have t9 := hn.cell_ r (intJ_get hv0)
                have HSZ := hide (intJ_lt (l := N) (js := js2) (i := r) (by omega))
                have HTK := hide htk
                have HNL := hide hNl
                clear hv0 hv2 hp' hAP' hpp hv2b hv0e htk hNl
                by_cases hmx : v0 < v2 + pp
                · have HN2 : Hid (RowAtK b wd p' cnt r (k + 1) (N.set r (v2 + pp))) := HN.out.set (by rw [HTK.out]; omega)
                  go_wp2_with fail
                  refine wp_region_quiet_tail (C := fun w' => ∃ u : Since W, w' = u.w) 23 (by kernel_rfl) (by kernel_rfl) (Since.start W) ?_
                  simp only [List.take_succ_cons, List.take_zero, List.drop_succ_cons, List.drop_zero]
                  have y_c0 := Since.cell c0
                  have y_c1 := Since.cell c1
                  have y_c2 := Since.cell c2
                  have y_m0 := Since.cell m0
                  have y_m1 := Since.cell m1
                  have y_t8 := Since.cell t8
                  have y_t9 := Since.cell t9
                  have y_hcp := Since.cell hcp
                  clear c0 c1 c2 m0 m1
                  repeat (go_big_quiet_step ((fail)))
                  refine wpQuiet_nil ?_
                  rintro W ⟨⟨_, hb⟩, rfl⟩
                  try dsimp only at hb ⊢
                  replace t8 : W.cell? _ = _ := y_t8 ⟨W, hb⟩
                  replace t9 : W.cell? _ = _ := y_t9 ⟨W, hb⟩
                  replace hcp : W.cell? _ = _ := y_hcp ⟨W, hb⟩
                  clear y_c0 y_c1 y_c2 y_m0 y_m1 y_t8 y_t9 y_hcp
                  replace hk := hk.below hb hk.lt
                  replace hbb := hbb.below hb hbb.lt
                  replace hm := hm.below hb hm.lt
                  replace hn := hn.below hb hn.lt
                  replace hB := hB.trans (hb.mono hB.size)
                  clear hb
                  have c0 := hk.cell_ 0 rfl
                  have c1 := hk.cell_ 1 rfl
                  have c2 := hk.cell_ 2 rfl
                  have m0 := hm.cell_ 0 rfl
                  have m1 := hm.cell_ 1 rfl
                  refine wpList_store_at rfl 3 _ _ rfl (.int .i64 (v2 + pp)) hn rfl rfl (by kernel_rfl) rfl HSZ.out rfl ?_
                  intro W2 hn2 hc2
                  rw [intJ_set (by rw [HNL.out]; exact hrl)] at hn2
                  clear c0 c1 c2 m0 m1
                  replace hk := hk.chg1 hc2 (by omega)
                  replace hbb := hbb.chg1 hc2 (by omega)
                  replace hm := hm.chg1 hc2 (by omega)
                  replace hB := hB.trans (hc2.below1 hB.size (by omega))
                  have HNL2 : Hid ((N.set r (v2 + pp)).length = R + 1) := by show _ = _; rw [List.length_set]; exact HNL.out
                  clear hn hc2 t8 t9 hcp
                  go_wp2_with fail
                  go_roundw
                  case rel => exact ⟨k + 1, kk + 1, N.set r (v2 + pp), rfl, hide (by rw [HKK.out]; push_cast; rfl), ⟨by omega, by omega⟩, by have := HKK.out; omega, HNL2.out, HN2, hk, hbb, hm, hn2, hB⟩
                  case measure => have := HKK.out; simp [intOf]; omega
                · have HN2 : Hid (RowAtK b wd p' cnt r (k + 1) (N.set r v0)) := HN.out.set (by rw [HTK.out]; omega)
                  go_wp2_with fail
                  refine wp_region_quiet_tail (C := fun w' => ∃ u : Since W, w' = u.w) 23 (by kernel_rfl) (by kernel_rfl) (Since.start W) ?_
                  simp only [List.take_succ_cons, List.take_zero, List.drop_succ_cons, List.drop_zero]
                  have y_c0 := Since.cell c0
                  have y_c1 := Since.cell c1
                  have y_c2 := Since.cell c2
                  have y_m0 := Since.cell m0
                  have y_m1 := Since.cell m1
                  have y_t8 := Since.cell t8
                  have y_t9 := Since.cell t9
                  have y_hcp := Since.cell hcp
                  clear c0 c1 c2 m0 m1
                  repeat (go_big_quiet_step ((fail)))
                  refine wpQuiet_nil ?_
                  rintro W ⟨⟨_, hb⟩, rfl⟩
                  try dsimp only at hb ⊢
                  replace t8 : W.cell? _ = _ := y_t8 ⟨W, hb⟩
                  replace t9 : W.cell? _ = _ := y_t9 ⟨W, hb⟩
                  replace hcp : W.cell? _ = _ := y_hcp ⟨W, hb⟩
                  clear y_c0 y_c1 y_c2 y_m0 y_m1 y_t8 y_t9 y_hcp
                  replace hk := hk.below hb hk.lt
                  replace hbb := hbb.below hb hbb.lt
                  replace hm := hm.below hb hm.lt
                  replace hn := hn.below hb hn.lt
                  replace hB := hB.trans (hb.mono hB.size)
                  clear hb
                  have c0 := hk.cell_ 0 rfl
                  have c1 := hk.cell_ 1 rfl
                  have c2 := hk.cell_ 2 rfl
                  have m0 := hm.cell_ 0 rfl
                  have m1 := hm.cell_ 1 rfl
                  refine wpList_store_at rfl 3 _ _ rfl (.int .i64 (v0)) hn rfl rfl (by kernel_rfl) rfl HSZ.out rfl ?_
                  intro W2 hn2 hc2
                  rw [intJ_set (by rw [HNL.out]; exact hrl)] at hn2
                  clear c0 c1 c2 m0 m1
                  replace hk := hk.chg1 hc2 (by omega)
                  replace hbb := hbb.chg1 hc2 (by omega)
                  replace hm := hm.chg1 hc2 (by omega)
                  replace hB := hB.trans (hc2.below1 hB.size (by omega))
                  have HNL2 : Hid ((N.set r (v0)).length = R + 1) := by show _ = _; rw [List.length_set]; exact HNL.out
                  clear hn hc2 t8 t9 hcp
                  go_wp2_with fail
                  go_roundw
                  case rel => exact ⟨k + 1, kk + 1, N.set r (v0), rfl, hide (by rw [HKK.out]; push_cast; rfl), ⟨by omega, by omega⟩, by have := HKK.out; omega, HNL2.out, HN2, hk, hbb, hm, hn2, hB⟩
                  case measure => have := HKK.out; simp [intOf]; omega
              · have HN2 := hide (HN.out.done (topK_stop (by rw [← HM.out]; omega) hkc))
                have hmr' : ¬ (m : Int) ≤ (r : Int) := by omega
                go_wp2_with fail
                go_roundw
                case rel => exact ⟨r + 1, N, by go_num, by omega, hNl, HN2, hk, hbb, hm, hn, hB⟩
                case measure => simp [intOf]; omega
            · obtain rfl : k = cnt := by have := HKK.out; omega
              have HN2 := hide (HN.out.done rfl)
              go_wp2_with fail
              go_roundw
              case rel => exact ⟨r + 1, N, by go_num, by omega, hNl, HN2, hk, hbb, hm, hn, hB⟩
              case measure => simp [intOf]; omega
        · obtain rfl : r = R + 1 := by omega
          have hall := HN.out.all (by rw [hNl, hbl]) hbl.symm
          subst hall
          have HT2 : Hid (Low (rowK b wd p cnt) (((i + 1 : Nat) : Int) * 50000000) ∧ bestL K l ps (List.replicate (R + 1) 0) = bestL K (l.drop (i + 1)) (ps.drop (i + 1)) (rowK b wd p cnt)) := by
            refine ⟨?_, by rw [HT.out.2, HST.out]⟩
            have := rowK_low (wd := wd) (cnt := cnt) HT.out.1 (by omega) hpo hcnt2
            rw [show (((i + 1 : Nat) : Int)) * 50000000 = (i : Int) * 50000000 + 50000000 by push_cast; omega]
            exact this
          go_wp2_with fail
          go_roundw
          case rel => exact ⟨i + 1, g2, c9, js2, rowK b wd p cnt, rfl, by go_num, by omega, hNl, hg2c, hn, HT2, hk, hB⟩
          case measure => simp [intOf]; omega
    · obtain rfl : i = l.length := by omega
      obtain ⟨v, hv⟩ : ∃ v, b[R]? = some v := ⟨_, List.getElem?_eq_getElem (by omega)⟩
      have HV : Hid (dearF L K l ps = v) := by
        show _ = _
        rw [HD.out, HT.out.2]
        have e := bestL_end (K := K) (l := l) (ps := ps) (b := b)
        rw [e]; exact getD_of hv
      have t9 := hbb.cell_ R (intJ_get hv)
      go_wp2_with fail
      go_ret
      exact ⟨ret_int HV.out.symm, hB⟩
end Go.Proofs.YtecaaimaeaocbaaDoor
