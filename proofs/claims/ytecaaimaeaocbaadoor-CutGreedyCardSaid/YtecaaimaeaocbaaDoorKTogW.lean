/- together of the reference: the walk. -/
import Derived.Test.YtecaaimaeaocbaaDoorKTogether
namespace Go.Proofs.YtecaaimaeaocbaaDoor
open Go Go.RowKit
def TogPost (pl : List Bat) (w : World) (e : Ending) (w' : World) : Prop :=
  ∃ A' c' os, e = .returned (.slice A' (foldB pl).length c') ∧ Below w.heap.size w w' ∧ PlanAt w' A' os (foldB pl)
theorem OutIn.ins {w : World} {base : Nat} {os : List Bt} {pl : List Bat} (h : OutIn w base os pl) {j : Nat} (hj : j ≤ os.length) {b : Bt} {p : Bat} (h1 : b.t = p.t) (h2 : b.n = p.ps.length) (h3 : p.ps ≠ []) (h4 : Own w base 3 1 intEnc (.slice b.A b.n b.c) p.ps) : OutIn w base (os.take j ++ [b] ++ os.drop j) (pl.take j ++ (p :: pl.drop j)) := by
  have hjp : j ≤ pl.length := by rw [← h.len]; exact hj
  have e1 : (os.take j).length = j := by simp; omega
  have e2 : (pl.take j).length = j := by simp; omega
  rw [List.append_assoc, List.singleton_append]
  refine ⟨by simp [h.len], fun i b' p' hb hp => ?_⟩
  rcases Nat.lt_or_ge i j with hi | hi
  · rw [List.getElem?_append_left (by omega), List.getElem?_take, if_pos hi] at hb hp
    exact h.in_ i b' p' hb hp
  · rw [List.getElem?_append_right (by omega), e1] at hb
    rw [List.getElem?_append_right (by omega), e2] at hp
    rcases Nat.eq_or_lt_of_le hi with hi2 | hi2
    · rw [← hi2, Nat.sub_self] at hb hp
      simp at hb hp
      subst hb hp
      exact ⟨h1, h2, h3, h4⟩
    · obtain ⟨k, hk⟩ : ∃ k, i - j = k + 1 := ⟨i - j - 1, by omega⟩
      rw [hk, List.getElem?_cons_succ, List.getElem?_drop] at hb hp
      exact h.in_ _ b' p' hb hp
/-- the inner loop's contract for one place of the list -/
theorem above_n (A : Option Addr) (cA n : Nat) (a : List Int) (B : Option Addr) (cB : Nat) (b : List Int) (w : World) (hA : Slc intEnc 1 w w.heap.size A a) (hB : Slc intEnc 1 w w.heap.size B b) (hl : a.length ≤ 100000) (hlb : a.length = b.length) (hn : a.length = n) {v : Int} (h : cmpL a b = v) :
    Calls Tryd.prog 116 #[.slice A n cA, .slice B b.length cB] w fun e w' => e = .returned (.int .i64 v) ∧ Below w.heap.size w w' := by
  subst h hn; exact above_any A cA a B cB b w hA hB hl hlb
set_option maxRecDepth 100000 in
set_option maxHeartbeats 4000000 in
theorem together_any (A : Option Addr) (c : Nat) (bs : List Bt) (pl : List Bat) (n : Nat) (w : World) (hP : PlanAt w A bs pl) (hn : pl.length ≤ 1000) (hn9 : n ≤ 1000) (hpb : ∀ b ∈ pl, (1 ≤ b.t ∧ b.t ≤ 1000) ∧ b.ps.length = n) :
    Calls Tryd.prog 89 #[.slice A pl.length c] w (TogPost pl w) := by
  have HPB := hide hpb
  clear hpb
  have G : ∀ W, Below w.heap.size w W → Calls Tryd.prog 89 #[.slice A pl.length c] W (TogPost pl w) := by
    intro W hL
    have hO : Own W w.heap.size 73 2 Bt.enc (.slice none 0 0) [] := Own.nil_
    have hI : OutIn W w.heap.size [] (foldB (pl.take 0)) := OutIn.nil_ _ _
    go_enter Tryd.func89, Tryd.ntmps89
    go_wp2_with fail
    go_loopw [3, 4] (fun v y W => ∃ (i : Nat) (os : List Bt), y = .int .i64 i ∧ i ≤ pl.length ∧ Own W w.heap.size 73 2 Bt.enc v os ∧ OutIn W w.heap.size os (foldB (pl.take i)) ∧ Below w.heap.size w W) (fun v y _ => pl.length - (intOf y).toNat)
    case atStart => exact ⟨0, [], rfl, Nat.zero_le _, hO, hI, hL⟩
    case round =>
      clear hO hI hL
      obtain ⟨W, rfl⟩ : ∃ W : World, W = wr := ⟨_, rfl⟩
      obtain ⟨i, os, rfl, hi, hO, hI, hL⟩ := hrel
      obtain ⟨Ao, co, rfl, hoc, hSo⟩ := hO.form2 fun _ => rfl
      have hol : os.length ≤ 1000 := by
        have h1 := hI.len
        have h2 := foldB_len (pl.take i)
        simp at h2
        omega
      by_cases hlt : i < pl.length
      · obtain ⟨p, b, off, A', c', hp, hA, hbl, d0, d1, hQ0⟩ := plan_at hP hlt
        replace d0 := (hL.cell (p := ⟨b, off + i * 2, none⟩) hbl).trans d0
        replace d1 := (hL.cell (p := ⟨b, off + i * 2 + 1, none⟩) hbl).trans d1
        have hii : (i : Int) < (pl.length : Int) := by omega
        have HX := hide hp
        obtain ⟨hpt, hpl⟩ := HPB.out p (List.mem_of_getElem? hp)
        have hpl9 : p.ps.length ≤ 1000 := by omega
        have HPL := hide hpl
        have hLs := hL.size
        clear hp hSo hpl
        subst hA
        go_upto_region 6 with fail
        have hm := Blk.new W 73 #[.int .i64 p.t, .slice A' p.ps.length c']
        replace hO := hO.alloc (.cells #[.int .i64 p.t, .slice A' p.ps.length c'] 73)
        replace hI := hI.below ((Below.refl _ W).alloc (Nat.le_refl _) (.cells #[.int .i64 p.t, .slice A' p.ps.length c'] 73))
        replace hL := hL.trans (((Below.refl _ W).alloc (Nat.le_refl _) (.cells #[.int .i64 p.t, .slice A' p.ps.length c'] 73)).mono hL.size)
        have hsz_bx : (W.alloc (.cells #[.int .i64 p.t, .slice A' p.ps.length c'] 73)).heap.size = W.heap.size + 1 := by simp
        generalize hbx : W.heap.size = bx at *
        generalize W.alloc (.cells #[.int .i64 p.t, .slice A' p.ps.length c'] 73) = W at *
        clear hbx
        have m0 := hm.cell_ 0 rfl
        have m1 := hm.cell_ 1 rfl
        clear d0 d1
        have HNX := hide (foldB_next HX.out)
        cases he : emptyB p.ps
        case true =>
          have hI2 : OutIn W w.heap.size os (foldB (pl.take (i + 1))) := by rw [HNX.out, if_pos he]; exact hI
          have HEM : Hid (emptyB p.ps = true) := he
          clear hI he
          go_wp2_with fail
          refine (empty_any A' c' p.ps _ (hQ0.on hL) (by omega)).mono ?_
          rintro e W ⟨rfl, hb⟩
          clear m0 m1
          replace hO := hO.below hb
          replace hL := hL.trans (hb.mono hL.size)
          replace hm := hm.below hb hm.lt
          replace hI2 := hI2.below hb
          clear hb
          have m0 := hm.cell_ 0 rfl
          have m1 := hm.cell_ 1 rfl
          rw [HEM.out]
          go_wp2_with fail
          go_roundw
          case rel => exact ⟨i + 1, os, by go_num, by omega, hO, hI2, hL⟩
          case measure => simp [intOf]; omega
        case false =>
          have HEM : Hid (emptyB p.ps = false) := he
          have HNE : Hid (p.ps ≠ []) := by rintro h; rw [h] at he; simp [emptyB] at he
          have HIN : Hid (foldB (pl.take (i + 1)) = insB (foldB (pl.take i)) p) := by show _ = _; rw [HNX.out, he]; rfl
          clear he
          go_wp2_with fail
          refine (empty_any A' c' p.ps _ (hQ0.on hL) (by omega)).mono ?_
          rintro e W ⟨rfl, hb⟩
          clear m0 m1
          replace hO := hO.below hb
          replace hI := hI.below hb
          replace hL := hL.trans (hb.mono hL.size)
          replace hm := hm.below hb hm.lt
          clear hb
          have m0 := hm.cell_ 0 rfl
          have m1 := hm.cell_ 1 rfl
          rw [HEM.out]
          go_wp2_with fail
          clear m0 m1
          go_loopw [6] (fun y W => ∃ (j : Nat), y = .int .i64 j ∧ j ≤ os.length ∧ Hid (insB (foldB (pl.take i)) p = (foldB (pl.take i)).take j ++ insB ((foldB (pl.take i)).drop j) p) ∧ Own W w.heap.size 73 2 Bt.enc (.slice Ao os.length co) os ∧ OutIn W w.heap.size os (foldB (pl.take i)) ∧ Below w.heap.size w W ∧ Blk W bx 73 #[.int .i64 p.t, .slice A' p.ps.length c']) (fun y _ => os.length - (intOf y).toNat)
          case atStart => exact ⟨0, rfl, Nat.zero_le _, hide ins_step0, hO, hI, hL, hm⟩
          case round =>
            clear hO hI hL hm
            obtain ⟨W, rfl⟩ : ∃ W : World, W = wr := ⟨_, rfl⟩
            obtain ⟨j, rfl, hj, HJ, hO, hI, hL, hm⟩ := hrel
            by_cases hjl : j < os.length
            · obtain ⟨x, hx⟩ : ∃ x, os[j]? = some x := ⟨_, List.getElem?_eq_getElem hjl⟩
              obtain ⟨px, hpx⟩ : ∃ px, (foldB (pl.take i))[j]? = some px := ⟨_, List.getElem?_eq_getElem (by rw [← hI.len]; exact hjl)⟩
              obtain ⟨k1, k2, k3, k4⟩ := hI.in_ j x px hx hpx
              have hpxt := foldB_tb (pl := pl.take i) (fun b hb => by have := (HPB.out b (List.mem_of_mem_take hb)).1; omega) (by simp; omega) px (List.mem_of_getElem? hpx)
              have hpxl : px.ps.length = n := by
                rcases foldl_keys ⟨px, List.mem_of_getElem? hpx, rfl⟩ with ⟨z, hz, ez⟩ | ⟨z, hz, _⟩
                · rw [← ez]; exact (HPB.out z (List.mem_of_mem_take (List.mem_filter.1 hz).1)).2
                · cases hz
              have HLL : Hid (px.ps.length = p.ps.length) := by show _ = _; rw [hpxl, HPL.out]
              have hpx9 : px.ps.length ≤ 1000 := by omega
              obtain ⟨tx, Ax, nx, cx⟩ := x
              dsimp only at k1 k2 k4
              subst k1 k2
              have HQX := hide (And.intro hx hpx)
              obtain ⟨g, js, rfl, hge, hG⟩ := own_blkF hO (by rintro rfl; simp at hjl)
              have T1 := hide (k4.slc fun _ => rfl)
              have T2 := hide (hQ0.on hL)
              have HG0 : Hid ((os.flatMap Bt.enc ++ js).toArray[j * 2]? = some (.int .i64 px.t)) := blkF_get (f := Bt.enc) (n := 2) (fun _ => rfl) hx (j := 0) rfl
              have HG1 : Hid ((os.flatMap Bt.enc ++ js).toArray[j * 2 + 1]? = some (.slice Ax px.ps.length cx)) := blkF_get (f := Bt.enc) (n := 2) (fun _ => rfl) hx (j := 1) rfl
              have hjj : (j : Int) < (os.length : Int) := by omega
              clear hx hpx k3 k4 hpxl
              have m0 := hm.cell_ 0 rfl
              have m1 := hm.cell_ 1 rfl
              have g0 := hG.cell_ (j * 2) HG0.out
              have g1 := hG.cell_ (j * 2 + 1) HG1.out
              obtain ⟨v, hv⟩ : ∃ v, cmpL px.ps p.ps = v := ⟨_, rfl⟩
              have HCV := hide hv
              clear hv
              by_cases hv0 : 0 < v
              · have HJ2 := hide (ins_next HJ.out HQX.out.2 (by rw [HCV.out]; exact hv0))
                go_wp2_with fail
                refine wp_region_quiet (C := fun w' => ∃ u : Since W, w' = u.w) (by kernel_rfl) (by kernel_rfl) (Since.start W) ?_
                dsimp only
                have y_m0 := Since.cell m0
                have y_m1 := Since.cell m1
                have y_g0 := Since.cell g0
                have y_g1 := Since.cell g1
                clear m0 m1
                repeat (go_big_quiet_step ((go_at_call 116; exact Since.calls (above_n Ax cx _ px.ps A' c' p.ps _ (Slc.on T1.out (Since.h _)) (Slc.on T2.out (Since.h _)) (by omega) HLL.out rfl HCV.out))))
                refine wpQuiet_nil ?_
                rintro W ⟨⟨_, hb⟩, rfl⟩
                try dsimp only at hb ⊢
                replace g0 : W.cell? _ = _ := y_g0 ⟨W, hb⟩
                replace g1 : W.cell? _ = _ := y_g1 ⟨W, hb⟩
                clear y_m0 y_m1 y_g0 y_g1
                replace hO := hO.below hb
                replace hI := hI.below hb
                replace hL := hL.trans (hb.mono hL.size)
                replace hm := hm.below hb hm.lt
                replace hG := hG.below hb hG.lt
                clear hb
                have m0 := hm.cell_ 0 rfl
                have m1 := hm.cell_ 1 rfl
                go_wp2_with fail
                go_roundw
                case rel => exact ⟨j + 1, by go_num, by omega, HJ2, hO, hI, hL, hm⟩
                case measure => simp [intOf]; omega
              by_cases hv1 : v = 0
              · have HAP : Hid (foldB (pl.take (i + 1)) = (foldB (pl.take i)).set j ⟨px.t + p.t, px.ps⟩) := by show _ = _; rw [HIN.out, ins_here HJ.out HQX.out.2 (by rw [HCV.out]; exact hv1)]
                subst hv1
                go_wp2_with fail
                refine wp_region_quiet (C := fun w' => ∃ u : Since W, w' = u.w) (by kernel_rfl) (by kernel_rfl) (Since.start W) ?_
                dsimp only
                have y_m0 := Since.cell m0
                have y_m1 := Since.cell m1
                have y_g0 := Since.cell g0
                have y_g1 := Since.cell g1
                clear m0 m1
                repeat (go_big_quiet_step ((go_at_call 116; exact Since.calls (above_n Ax cx _ px.ps A' c' p.ps _ (Slc.on T1.out (Since.h _)) (Slc.on T2.out (Since.h _)) (by omega) HLL.out rfl HCV.out))))
                refine wpQuiet_nil ?_
                rintro W ⟨⟨_, hb⟩, rfl⟩
                try dsimp only at hb ⊢
                replace g0 : W.cell? _ = _ := y_g0 ⟨W, hb⟩
                replace g1 : W.cell? _ = _ := y_g1 ⟨W, hb⟩
                clear y_m0 y_m1 y_g0 y_g1
                replace hO := hO.below hb
                replace hI := hI.below hb
                replace hL := hL.trans (hb.mono hL.size)
                replace hm := hm.below hb hm.lt
                replace hG := hG.below hb hG.lt
                clear hb
                have m0 := hm.cell_ 0 rfl
                have m1 := hm.cell_ 1 rfl
                go_upto_region 10 with fail
                obtain ⟨_, _, _, k4⟩ := hI.in_ j _ px HQX.out.1 HQX.out.2
                have T1 := hide (k4.slc fun _ => rfl)
                have T2 := hide (hQ0.on hL)
                have g0 := hG.cell_ (j * 2) HG0.out
                have g1 := hG.cell_ (j * 2 + 1) HG1.out
                clear k4
                have heq0 : ((0 : Int) == 0) = true := rfl
                go_wp2_with fail
                refine wp_region_quiet (C := fun w' => ∃ u : Since W, w' = u.w) (by kernel_rfl) (by kernel_rfl) (Since.start W) ?_
                dsimp only
                have y_m0 := Since.cell m0
                have y_m1 := Since.cell m1
                have y_g0 := Since.cell g0
                have y_g1 := Since.cell g1
                clear m0 m1
                repeat (go_big_quiet_step ((go_at_call 116; exact Since.calls (above_n Ax cx _ px.ps A' c' p.ps _ (Slc.on T1.out (Since.h _)) (Slc.on T2.out (Since.h _)) (by omega) HLL.out rfl HCV.out))))
                refine wpQuiet_nil ?_
                rintro W ⟨⟨_, hb⟩, rfl⟩
                try dsimp only at hb ⊢
                replace g0 : W.cell? _ = _ := y_g0 ⟨W, hb⟩
                replace g1 : W.cell? _ = _ := y_g1 ⟨W, hb⟩
                clear y_m0 y_m1 y_g0 y_g1
                replace hO := hO.below hb
                replace hI := hI.below hb
                replace hL := hL.trans (hb.mono hL.size)
                replace hm := hm.below hb hm.lt
                replace hG := hG.below hb hG.lt
                clear hb
                have m0 := hm.cell_ 0 rfl
                have m1 := hm.cell_ 1 rfl
                go_upto_region 11 with fail
                have g0 := hG.cell_ (j * 2) HG0.out
                have HSZ : Hid (j * 2 < (os.flatMap Bt.enc ++ js).toArray.size) := (Array.getElem?_eq_some_iff.1 HG0.out).1
                go_wp2_with fail
                refine wp_region_quiet_tail (C := fun w' => ∃ u : Since W, w' = u.w) 10 (by kernel_rfl) (by kernel_rfl) (Since.start W) ?_
                simp only [List.take_succ_cons, List.take_zero, List.drop_succ_cons, List.drop_zero]
                have y_m0 := Since.cell m0
                have y_m1 := Since.cell m1
                have y_g0 := Since.cell g0
                clear m0 m1
                repeat (go_big_quiet_step ((fail)))
                refine wpQuiet_nil ?_
                rintro W ⟨⟨_, hb⟩, rfl⟩
                try dsimp only at hb ⊢
                replace g0 : W.cell? _ = _ := y_g0 ⟨W, hb⟩
                clear y_m0 y_m1 y_g0
                replace hO := hO.below hb
                replace hI := hI.below hb
                replace hL := hL.trans (hb.mono hL.size)
                replace hm := hm.below hb hm.lt
                replace hG := hG.below hb hG.lt
                clear hb
                have m0 := hm.cell_ 0 rfl
                have m1 := hm.cell_ 1 rfl
                refine wpList_store_at rfl 3 _ _ rfl (.int .i64 (px.t + p.t)) hG rfl rfl (by kernel_rfl) rfl HSZ.out rfl ?_
                intro W2 hG2 hcc
                rw [List.setIfInBounds_toArray, show j * 2 = j * 2 + 0 from rfl, flat_set (f := Bt.enc) (n := 2) (fun _ => rfl) (x' := ⟨px.t + p.t, Ax, px.ps.length, cx⟩) HQX.out.1 (by omega) rfl] at hG2
                have hO2 := own_putF (f := Bt.enc) (sz := 2) (fun _ => rfl) hO (List.length_set) hG hG2
                have hI2 := hI.put hcc hO HQX.out.1 HQX.out.2 (px.t + p.t)
                have hL2 := hL.trans (hcc.below1 hL.size hge)
                rw [← HAP.out] at hI2
                clear hI hO hL hm m0 m1 hG hG2 g0 hcc
                go_wp2_with fail
                go_roundw
                case rel => exact ⟨i + 1, _, by go_num, by omega, hO2, hI2, hL2⟩
                case measure => simp [intOf]; omega
              · have HAP : Hid (foldB (pl.take (i + 1)) = (foldB (pl.take i)).take j ++ (p :: (foldB (pl.take i)).drop j)) := by show _ = _; rw [HIN.out, ins_below HJ.out HQX.out.2 (by rw [HCV.out]; omega)]
                go_wp2_with fail
                refine wp_region_quiet (C := fun w' => ∃ u : Since W, w' = u.w) (by kernel_rfl) (by kernel_rfl) (Since.start W) ?_
                dsimp only
                have y_m0 := Since.cell m0
                have y_m1 := Since.cell m1
                have y_g0 := Since.cell g0
                have y_g1 := Since.cell g1
                clear m0 m1
                repeat (go_big_quiet_step ((go_at_call 116; exact Since.calls (above_n Ax cx _ px.ps A' c' p.ps _ (Slc.on T1.out (Since.h _)) (Slc.on T2.out (Since.h _)) (by omega) HLL.out rfl HCV.out))))
                refine wpQuiet_nil ?_
                rintro W ⟨⟨_, hb⟩, rfl⟩
                try dsimp only at hb ⊢
                replace g0 : W.cell? _ = _ := y_g0 ⟨W, hb⟩
                replace g1 : W.cell? _ = _ := y_g1 ⟨W, hb⟩
                clear y_m0 y_m1 y_g0 y_g1
                replace hO := hO.below hb
                replace hI := hI.below hb
                replace hL := hL.trans (hb.mono hL.size)
                replace hm := hm.below hb hm.lt
                replace hG := hG.below hb hG.lt
                clear hb
                have m0 := hm.cell_ 0 rfl
                have m1 := hm.cell_ 1 rfl
                go_upto_region 10 with fail
                obtain ⟨_, _, _, k4⟩ := hI.in_ j _ px HQX.out.1 HQX.out.2
                have T1 := hide (k4.slc fun _ => rfl)
                have T2 := hide (hQ0.on hL)
                have g0 := hG.cell_ (j * 2) HG0.out
                have g1 := hG.cell_ (j * 2 + 1) HG1.out
                clear k4
                have heq0 : (v == 0) = false := by simp [hv1]
                go_wp2_with fail
                refine wp_region_quiet (C := fun w' => ∃ u : Since W, w' = u.w) (by kernel_rfl) (by kernel_rfl) (Since.start W) ?_
                dsimp only
                have y_m0 := Since.cell m0
                have y_m1 := Since.cell m1
                have y_g0 := Since.cell g0
                have y_g1 := Since.cell g1
                clear m0 m1
                repeat (go_big_quiet_step ((go_at_call 116; exact Since.calls (above_n Ax cx _ px.ps A' c' p.ps _ (Slc.on T1.out (Since.h _)) (Slc.on T2.out (Since.h _)) (by omega) HLL.out rfl HCV.out))))
                refine wpQuiet_nil ?_
                rintro W ⟨⟨_, hb⟩, rfl⟩
                try dsimp only at hb ⊢
                replace g0 : W.cell? _ = _ := y_g0 ⟨W, hb⟩
                replace g1 : W.cell? _ = _ := y_g1 ⟨W, hb⟩
                clear y_m0 y_m1 y_g0 y_g1
                replace hO := hO.below hb
                replace hI := hI.below hb
                replace hL := hL.trans (hb.mono hL.size)
                replace hm := hm.below hb hm.lt
                replace hG := hG.below hb hG.lt
                clear hb
                have m0 := hm.cell_ 0 rfl
                have m1 := hm.cell_ 1 rfl
                clear hG g0 g1
                go_upto_region 13 with fail
                have hs1 : ∀ (A : Option Addr) (w : World), (Instr.sliceAt 74 (.slice A os.length co) none (some (.int .i64 ((j : Nat) : Int))) none).run Tryd.prog w = .ok (.slice A (j) co) w := fun A w => slice_toA A os.length co (j) (by omega) w
                have hs2 : ∀ (A : Option Addr) (w : World), (Instr.sliceAt 74 (.slice A os.length co) (some (.int .i64 ((j : Nat) : Int))) none none).run Tryd.prog w = .ok (.slice (dropA A co (j) 2) (os.length - (j)) (co - (j))) w := fun A w => run_slice_from et_batch A os.length co (j) (by omega) w
                go_upto_region 14 with (at_builtin; refine wpList_app_own (base := W.heap.size) (xs := ([] : List Bt)) (ys := os.take (j)) _ _ rfl rfl et_batch Own.nil_ rfl rfl (Slc.take_ (j) (hO.slc fun _ => rfl)) (by simp <;> omega) (fun _ => rfl) bt_one (by simp <;> omega) (Nat.le_refl _) ?_; intro v7 W7 o7 hb7 hg7)
                have hm7 := hm.below hb7 hm.lt
                have hL7 := hL.trans (hb7.mono hL.size)
                have HT2 := hide (hQ0.on hL7)
                have hz7 := hb7.size
                have n0 := hm7.cell_ 0 rfl
                have n1 := hm7.cell_ 1 rfl
                have hmA := hm7.alloc (.cells #[] 3)
                have r0 := hmA.cell_ 0 rfl
                have r1 := hmA.cell_ 1 rfl
                go_region_law (first | (refine step_own_app1 _ _ rfl rfl et_batch (base := W.heap.size) (xs := [] ++ os.take (j)) (y := (⟨p.t, A9, p.ps.length, c9⟩ : Bt)) (o7x.alloc _) rfl rfl ((Blk.new w1 73 #[.int .i64 p.t, .slice A9 p.ps.length c9]).slc1 rfl) (fun _ => rfl) bt_one (by simp <;> omega) (by simp <;> omega) ?_; intro v' W' hO' hg' hv') | (refine step_own_app _ _ rfl rfl et_ints (base := W7.heap.size) (xs := ([] : List Int)) (ys := p.ps) (Own.empty_ (Blk.new W7 3 #[]).drew (Nat.le_refl _)) rfl rfl (HT2.out.on (((Below.refl W7.heap.size W7).alloc (Nat.le_refl _) (.cells #[] 3)).drew)) rfl (fun _ => rfl) intEnc_one (by simp <;> omega) (by simp) ?_; intro v9 w1 o9 hb9 hg9; rw [List.nil_append] at o9; obtain ⟨A9, c9, rfl, S9⟩ := o9.form (fun _ => rfl); have hbt := (((Below.refl W7.heap.size W7).alloc (Nat.le_refl _) (.cells #[] 3)).drew).trans hb9; have o7x := o7.below hbt; have hz9 := hbt.size; have hm9 := hm7.below hbt hm7.lt; have q0 := hm9.cell_ 0 rfl; have q1 := hm9.cell_ 1 rfl))
                all_goals
                  have hLz := hL.size
                  have o7y := o7x.alloc (.cells #[.int .i64 p.t, .slice A9 p.ps.length c9] 73)
                  have hbt2 := hbt.alloc hz9 (.cells #[.int .i64 p.t, .slice A9 p.ps.length c9] 73)
                  have hBW : Below W.heap.size W W' := (hb7.trans (hbt2.mono hz7)).trans (grownv_below hg' (Nat.le_trans hz7 hbt2.size) fun k hk => (own_ge o7y k hk).1)
                  have o9x := (o9.mono_base (Nat.le_trans hLz hz7)).alloc (.cells #[.int .i64 p.t, .slice A9 p.ps.length c9] 73)
                  have o9y := own_kept o9x hg' fun k hk hv => own_ne_own o9x o7y (by decide) k hk hv
                  have hO3 := hO.below hBW
                  have hI3 := (hI.below hBW).ins (j := j) (by omega) (b := (⟨p.t, A9, p.ps.length, c9⟩ : Bt)) (p := p) rfl rfl HNE.out o9y
                  rw [← HAP.out] at hI3
                  have hL3 := hL.trans (hBW.mono hLz)
                  have hSd := hide ((hO3.slc fun _ => rfl).dropA_ (k := j) hoc)
                  have hBs := hBW.size
                  clear hI hO hL hm m0 m1 hm7 hL7 n0 n1 hmA r0 r1 q0 q1 hm9 o7 o7x o7y hbt hbt2 hb7 hg7 o9 o9x o9y hb9 hg9 S9 hg' hv' hBW hO3 hs1
                  go_wp2_with (at_builtin; refine wpList_app_own (base := W.heap.size) (ys := os.drop (j)) _ _ rfl rfl et_batch hO' rfl rfl hSd.out (by simp) (fun _ => rfl) bt_one (by simp <;> omega) hBs ?_; intro v8 W8 o8 hb8 hg8)
                  have hI4 := hI3.grown hO' hg8
                  have hL4 := hL3.trans (hb8.mono hLz)
                  have o8y := o8.mono_base hLz
                  rw [List.nil_append] at o8y
                  clear hI3 hL3 o8 hb8 hg8 hO'
                  go_roundw
                  case rel => exact ⟨i + 1, _, by go_num, by omega, o8y, hI4, hL4⟩
                  case measure => simp [intOf]; omega
            · obtain rfl : j = os.length := by omega
              have HAP : Hid (foldB (pl.take (i + 1)) = (foldB (pl.take i)).take os.length ++ (p :: (foldB (pl.take i)).drop os.length)) := by show _ = _; rw [HIN.out, ins_last HJ.out hI.len]
              have m0 := hm.cell_ 0 rfl
              have m1 := hm.cell_ 1 rfl
              go_wp2_with fail
              refine wp_region_quiet (C := fun w' => ∃ u : Since W, w' = u.w) (by kernel_rfl) (by kernel_rfl) (Since.start W) ?_
              dsimp only
              have y_m0 := Since.cell m0
              have y_m1 := Since.cell m1
              clear m0 m1
              repeat (go_big_quiet_step ((fail)))
              refine wpQuiet_nil ?_
              rintro W ⟨⟨_, hb⟩, rfl⟩
              try dsimp only at hb ⊢
              clear y_m0 y_m1
              replace hO := hO.below hb
              replace hI := hI.below hb
              replace hL := hL.trans (hb.mono hL.size)
              replace hm := hm.below hb hm.lt
              clear hb
              have m0 := hm.cell_ 0 rfl
              have m1 := hm.cell_ 1 rfl
              go_upto_region 10 with fail
              go_wp2_with fail
              refine wp_region_quiet (C := fun w' => ∃ u : Since W, w' = u.w) (by kernel_rfl) (by kernel_rfl) (Since.start W) ?_
              dsimp only
              have y_m0 := Since.cell m0
              have y_m1 := Since.cell m1
              clear m0 m1
              repeat (go_big_quiet_step ((fail)))
              refine wpQuiet_nil ?_
              rintro W ⟨⟨_, hb⟩, rfl⟩
              try dsimp only at hb ⊢
              clear y_m0 y_m1
              replace hO := hO.below hb
              replace hI := hI.below hb
              replace hL := hL.trans (hb.mono hL.size)
              replace hm := hm.below hb hm.lt
              clear hb
              have m0 := hm.cell_ 0 rfl
              have m1 := hm.cell_ 1 rfl
              go_upto_region 13 with fail
              have hs1 : ∀ (A : Option Addr) (w : World), (Instr.sliceAt 74 (.slice A os.length co) none (some (.int .i64 ((os.length : Nat) : Int))) none).run Tryd.prog w = .ok (.slice A (os.length) co) w := fun A w => slice_toA A os.length co (os.length) (by omega) w
              have hs2 : ∀ (A : Option Addr) (w : World), (Instr.sliceAt 74 (.slice A os.length co) (some (.int .i64 ((os.length : Nat) : Int))) none none).run Tryd.prog w = .ok (.slice (dropA A co (os.length) 2) (os.length - (os.length)) (co - (os.length))) w := fun A w => run_slice_from et_batch A os.length co (os.length) (by omega) w
              go_upto_region 14 with (at_builtin; refine wpList_app_own (base := W.heap.size) (xs := ([] : List Bt)) (ys := os.take (os.length)) _ _ rfl rfl et_batch Own.nil_ rfl rfl (Slc.take_ (os.length) (hO.slc fun _ => rfl)) (by simp <;> omega) (fun _ => rfl) bt_one (by simp <;> omega) (Nat.le_refl _) ?_; intro v7 W7 o7 hb7 hg7)
              have hm7 := hm.below hb7 hm.lt
              have hL7 := hL.trans (hb7.mono hL.size)
              have HT2 := hide (hQ0.on hL7)
              have hz7 := hb7.size
              have n0 := hm7.cell_ 0 rfl
              have n1 := hm7.cell_ 1 rfl
              have hmA := hm7.alloc (.cells #[] 3)
              have r0 := hmA.cell_ 0 rfl
              have r1 := hmA.cell_ 1 rfl
              go_region_law (first | (refine step_own_app1 _ _ rfl rfl et_batch (base := W.heap.size) (xs := [] ++ os.take (os.length)) (y := (⟨p.t, A9, p.ps.length, c9⟩ : Bt)) (o7x.alloc _) rfl rfl ((Blk.new w1 73 #[.int .i64 p.t, .slice A9 p.ps.length c9]).slc1 rfl) (fun _ => rfl) bt_one (by simp <;> omega) (by simp <;> omega) ?_; intro v' W' hO' hg' hv') | (refine step_own_app _ _ rfl rfl et_ints (base := W7.heap.size) (xs := ([] : List Int)) (ys := p.ps) (Own.empty_ (Blk.new W7 3 #[]).drew (Nat.le_refl _)) rfl rfl (HT2.out.on (((Below.refl W7.heap.size W7).alloc (Nat.le_refl _) (.cells #[] 3)).drew)) rfl (fun _ => rfl) intEnc_one (by simp <;> omega) (by simp) ?_; intro v9 w1 o9 hb9 hg9; rw [List.nil_append] at o9; obtain ⟨A9, c9, rfl, S9⟩ := o9.form (fun _ => rfl); have hbt := (((Below.refl W7.heap.size W7).alloc (Nat.le_refl _) (.cells #[] 3)).drew).trans hb9; have o7x := o7.below hbt; have hz9 := hbt.size; have hm9 := hm7.below hbt hm7.lt; have q0 := hm9.cell_ 0 rfl; have q1 := hm9.cell_ 1 rfl))
              all_goals
                have hLz := hL.size
                have o7y := o7x.alloc (.cells #[.int .i64 p.t, .slice A9 p.ps.length c9] 73)
                have hbt2 := hbt.alloc hz9 (.cells #[.int .i64 p.t, .slice A9 p.ps.length c9] 73)
                have hBW : Below W.heap.size W W' := (hb7.trans (hbt2.mono hz7)).trans (grownv_below hg' (Nat.le_trans hz7 hbt2.size) fun k hk => (own_ge o7y k hk).1)
                have o9x := (o9.mono_base (Nat.le_trans hLz hz7)).alloc (.cells #[.int .i64 p.t, .slice A9 p.ps.length c9] 73)
                have o9y := own_kept o9x hg' fun k hk hv => own_ne_own o9x o7y (by decide) k hk hv
                have hO3 := hO.below hBW
                have hI3 := (hI.below hBW).ins (j := os.length) (by omega) (b := (⟨p.t, A9, p.ps.length, c9⟩ : Bt)) (p := p) rfl rfl HNE.out o9y
                rw [← HAP.out] at hI3
                have hL3 := hL.trans (hBW.mono hLz)
                have hSd := hide ((hO3.slc fun _ => rfl).dropA_ (k := os.length) hoc)
                have hBs := hBW.size
                clear hI hO hL hm m0 m1 hm7 hL7 n0 n1 hmA r0 r1 q0 q1 hm9 o7 o7x o7y hbt hbt2 hb7 hg7 o9 o9x o9y hb9 hg9 S9 hg' hv' hBW hO3 hs1
                go_wp2_with (at_builtin; refine wpList_app_own (base := W.heap.size) (ys := os.drop (os.length)) _ _ rfl rfl et_batch hO' rfl rfl hSd.out (by simp) (fun _ => rfl) bt_one (by simp <;> omega) hBs ?_; intro v8 W8 o8 hb8 hg8)
                have hI4 := hI3.grown hO' hg8
                have hL4 := hL3.trans (hb8.mono hLz)
                have o8y := o8.mono_base hLz
                rw [List.nil_append] at o8y
                clear hI3 hL3 o8 hb8 hg8 hO'
                go_roundw
                case rel => exact ⟨i + 1, _, by go_num, by omega, o8y, hI4, hL4⟩
                case measure => simp [intOf]; omega
      · have hin : i = pl.length := by omega
        have hI2 := hI
        rw [hin, List.take_length] at hI2
        have hQ2 := hI2.plan hSo
        have HQ2 := hide (And.intro hL hQ2)
        have HLN := hide hI2.len
        clear hI hI2 hQ2 hL hO hSo hi
        subst hin
        go_wp2_with fail
        go_ret
        exact ⟨Ao, co, os, by rw [← HLN.out]; rfl, HQ2.out.1, HQ2.out.2⟩
  exact G w (Below.refl _ _)
end Go.Proofs.YtecaaimaeaocbaaDoor
