/- The text of a tree in the document, and Format of both. -/
import Derived.Test.YtecaaimaeaocbaaDoorKRText
import Derived.Test.YtecaaimaeaocbaaDoorKCount
import Derived.Test.YtecaaimaeaocbaaDoorRegion
namespace Go.Proofs.YtecaaimaeaocbaaDoor
open Go Go.RowKit
def txS (t : Tree) : ByteArray := ⟨(textT t).toArray⟩
theorem byt_txS (t : Tree) : byt (txS t) = textT t := rfl
theorem txS_size {t : Tree} (hr : Right t) (h : htT t ≤ 20) : (txS t).size ≤ 20000000 := by
  rw [← byt_len, byt_txS]
  have := text_len hr h
  omega
def RTextAt (f : Nat) : Prop := ∀ (t : Tree) (op n pc : Int) (A : Option Addr) (k c L : Nat) (w : World), Right t → htT t ≤ 20 → TreeAt w L w.heap.size f t ⟨op, n, pc, A, k, c⟩ → ∀ S : ByteArray, txS t = S →
  Calls Tryd.prog 83 #[.agg #[.int .i64 op, .int .i64 n, .int .u8 pc, .slice A k c]] w fun e w' => e = .returned (.string S) ∧ Below w.heap.size w w'
theorem digits_is (n : Nat) (h : n ≤ 1000) {S : ByteArray} (hS : digS n = S) (w : World) : Calls Tryd.prog 103 #[.int .i64 n] w fun e w' => e = .returned (.string S) ∧ w = w' := by
  subst hS; exact digits_any n h w
set_option maxRecDepth 100000 in
set_option maxHeartbeats 4000000 in
theorem rtext_step (f : Nat) (H : RTextAt f) : RTextAt (f + 1) := by
  intro t op n pc A k c L w hr hht hT S hS
  obtain ⟨h1, h2, h3, h4, h5⟩ := hT.head
  dsimp only at h1 h2 h3 h4
  subst h4
  have HS := hide hS
  have HH := hide H
  have H1 := hide h1
  have H2 := hide h2
  have H3 := hide h3
  clear h1 h2 h3 H hS
  have hk := Blk.new w 60 #[.int .i64 op, .int .i64 n, .int .u8 pc, .slice A t.ts.length c]
  have hB := (Below.refl w.heap.size w).alloc (Nat.le_refl _) (.cells #[.int .i64 op, .int .i64 n, .int .u8 pc, .slice A t.ts.length c] 60)
  go_enter Tryd.func83, Tryd.ntmps83
  go_upto_region 1 with fail
  generalize w.alloc (.cells #[.int .i64 op, .int .i64 n, .int .u8 pc, .slice A t.ts.length c] 60) = W at *
  have q0 := hk.cell_ 0 (v := .int .i64 op) rfl
  rcases form_cases (right_form hr) with ⟨c1, c2, c3, c4⟩ | ⟨c1, c2, ⟨x, c3, x1, x2⟩, c4⟩ | ⟨c1, ⟨m, c2, m1, m2⟩, c3, ta, tb, c4⟩
  · have g0 : (op == 0) = true := by rw [H1.out, c1]; rfl
    have HT : Hid (S = ⟨#[95]⟩) := by
      show _ = _
      rw [← HS.out]
      obtain ⟨op', n', pc', ts'⟩ := t
      dsimp only [Tree.op, Tree.n, Tree.pc, Tree.ts] at c1 c2 c3 c4
      apply ba_ext
      rw [byt_txS, c1, c2, c3, c4]; rfl
    clear c1 c2 c3 c4
    go_wp2_with fail
    go_ret
    exact ⟨by rw [HT.out]; rfl, hB⟩
  · have g0 : (op == 0) = false := by rw [H1.out, c1]; rfl
    have g1 : (op == 1) = true := by rw [H1.out, c1]; rfl
    have hpc : pc = (x : Int) := by rw [H3.out, c3]
    subst hpc
    have q2 := hk.cell_ 2 (v := .int .u8 x) rfl
    have e1 : IntKind.i32.wrap (x : Int) = (x : Int) := by rw [IntKind.wrap_i32]; omega
    have e2 : Utf8.encode (x : Int) = S := by
      rw [enc_ascii x (by omega), ← HS.out]
      obtain ⟨op', n', pc', ts'⟩ := t
      dsimp only [Tree.op, Tree.n, Tree.pc, Tree.ts] at c1 c2 c3 c4
      apply ba_ext
      rw [byt_txS, c1, c2, c3, c4]; simp [textT, byt]
    clear c1 c2 c3 c4
    go_wp2_with fail
    go_ret
    exact ⟨rfl, hB⟩
  · have hn : n = (m : Int) := by rw [H2.out, c2]
    subst hn
    have HTS := hide c4
    have g0 : (op == 0) = false := by rw [H1.out]; rcases c1 with c1 | c1 <;> rw [c1] <;> rfl
    have g1 : (op == 1) = false := by rw [H1.out]; rcases c1 with c1 | c1 <;> rw [c1] <;> rfl
    have HRP : Hid (Right ta ∧ Right tb) := ⟨right_part hr (i := 0) (by rw [c4]; rfl), right_part hr (i := 1) (by rw [c4]; rfl)⟩
    have HHT : Hid (htT ta ≤ 20 ∧ htT tb ≤ 20) := by
      obtain ⟨op', n', pc', ts'⟩ := t
      dsimp only [Tree.ts] at c4
      subst c4
      simp only [htT] at hht
      exact ⟨by omega, by omega⟩
    have HTT : Hid (textT t = (if op = 3 then [118, 32] else [104, 32]) ++ digT m ++ [32, 40] ++ textT ta ++ [44, 32] ++ textT tb ++ [41]) := by
      have ho := H1.out
      obtain ⟨op', n', pc', ts'⟩ := t
      dsimp only [Tree.op, Tree.n, Tree.pc, Tree.ts] at c1 c2 c3 c4 ho
      show textT _ = _
      rw [c2, c4, ho]
      simp [textT]
    have hfew0 : (0 : Int) < (t.ts.length : Int) := by rw [HTS.out]; simp
    have hfew1 : (1 : Int) < (t.ts.length : Int) := by rw [HTS.out]; simp
    obtain ⟨t', o1, n1, p1, A1, k1, d1, pb, off, ht, hA, _, hT1, e0, e1, e2, e3⟩ := part_at (hT.on hB) (i := 0) (by rw [HTS.out]; simp)
    obtain ⟨t'', o2, n2, p2, A2, k2, d2, pb', off', ht2, hA2, _, hT2, x0, x1, x2, x3⟩ := part_at (hT.on hB) (i := 1) (by rw [HTS.out]; simp)
    rw [HTS.out] at ht ht2
    injection ht with ht
    injection ht2 with ht2
    dsimp only at hA hA2
    rw [hA] at hA2
    injection hA2 with hA2
    injection hA2 with hA21 hA22
    subst ht ht2 hA21 hA22 hA
    simp only [Nat.zero_mul, Nat.add_zero] at e0 e1 e2 e3
    simp only [Nat.one_mul] at x0 x1 x2 x3
    have x1b := x1
    have x2b := x2
    have x3b := x3
    simp only [Nat.add_assoc, Nat.reduceAdd] at x1b x2b x3b
    have HTA := hide hT1
    have HTB := hide hT2
    have HRA : Hid (Right ta) := HRP.out.1
    have HRB : Hid (Right tb) := HRP.out.2
    have HHA : Hid (htT ta ≤ 20) := HHT.out.1
    have HHB : Hid (htT tb ≤ 20) := HHT.out.2
    obtain ⟨Sa, hSa⟩ : ∃ S, txS ta = S := ⟨_, rfl⟩
    obtain ⟨Sb, hSb⟩ : ∃ S, txS tb = S := ⟨_, rfl⟩
    obtain ⟨D, hD⟩ : ∃ S, digS m = S := ⟨_, rfl⟩
    have za : Sa.size ≤ 20000000 := by rw [← hSa]; exact txS_size HRA.out HHA.out
    have zb : Sb.size ≤ 20000000 := by rw [← hSb]; exact txS_size HRB.out HHB.out
    have zd : D.size ≤ 4 := by rw [← hD]; exact digS_size m m2
    have HSA := hide hSa
    have HSB := hide hSb
    have HDS := hide hD
    clear hSa hSb hD c2 c3 c4 hht hT1 hT2 hT
    by_cases o3 : op = 3
    · have g3 : (op == 3) = true := by simp [o3]
      rw [if_pos o3] at HTT
      clear c1 o3
      have hz2 : (⟨#[118, 32]⟩ : ByteArray).size = 2 := rfl
      have hz3 : (⟨#[32, 40]⟩ : ByteArray).size = 2 := rfl
      have hz4 : (⟨#[44, 32]⟩ : ByteArray).size = 2 := rfl
      have hz5 : (⟨#[41]⟩ : ByteArray).size = 1 := rfl
      obtain ⟨Y1, hY1⟩ : ∃ x, (⟨#[118, 32]⟩ : ByteArray) ++ D = x := ⟨_, rfl⟩
      have zY1 : Y1.size = (⟨#[118, 32]⟩ : ByteArray).size + D.size := by rw [← hY1, size_cat]
      have kY1 : ¬ 9223372036854775807 < 2 + D.size := by omega
      have BY1 : Hid (byt Y1 = byt (⟨#[118, 32]⟩ : ByteArray) ++ byt D) := by show _ = _; rw [← hY1, byt_cat]
      obtain ⟨Y2, hY2⟩ : ∃ x, Y1 ++ (⟨#[32, 40]⟩ : ByteArray) = x := ⟨_, rfl⟩
      have zY2 : Y2.size = Y1.size + (⟨#[32, 40]⟩ : ByteArray).size := by rw [← hY2, size_cat]
      have kY2 : ¬ 9223372036854775807 < Y1.size + 2 := by omega
      have BY2 : Hid (byt Y2 = byt Y1 ++ byt (⟨#[32, 40]⟩ : ByteArray)) := by show _ = _; rw [← hY2, byt_cat]
      obtain ⟨Y3, hY3⟩ : ∃ x, Y2 ++ Sa = x := ⟨_, rfl⟩
      have zY3 : Y3.size = Y2.size + Sa.size := by rw [← hY3, size_cat]
      have kY3 : ¬ 9223372036854775807 < Y2.size + Sa.size := by omega
      have BY3 : Hid (byt Y3 = byt Y2 ++ byt Sa) := by show _ = _; rw [← hY3, byt_cat]
      obtain ⟨Y4, hY4⟩ : ∃ x, Y3 ++ (⟨#[44, 32]⟩ : ByteArray) = x := ⟨_, rfl⟩
      have zY4 : Y4.size = Y3.size + (⟨#[44, 32]⟩ : ByteArray).size := by rw [← hY4, size_cat]
      have kY4 : ¬ 9223372036854775807 < Y3.size + 2 := by omega
      have BY4 : Hid (byt Y4 = byt Y3 ++ byt (⟨#[44, 32]⟩ : ByteArray)) := by show _ = _; rw [← hY4, byt_cat]
      obtain ⟨Y5, hY5⟩ : ∃ x, Y4 ++ Sb = x := ⟨_, rfl⟩
      have zY5 : Y5.size = Y4.size + Sb.size := by rw [← hY5, size_cat]
      have kY5 : ¬ 9223372036854775807 < Y4.size + Sb.size := by omega
      have BY5 : Hid (byt Y5 = byt Y4 ++ byt Sb) := by show _ = _; rw [← hY5, byt_cat]
      obtain ⟨Y6, hY6⟩ : ∃ x, Y5 ++ (⟨#[41]⟩ : ByteArray) = x := ⟨_, rfl⟩
      have zY6 : Y6.size = Y5.size + (⟨#[41]⟩ : ByteArray).size := by rw [← hY6, size_cat]
      have kY6 : ¬ 9223372036854775807 < Y5.size + 1 := by omega
      have BY6 : Hid (byt Y6 = byt Y5 ++ byt (⟨#[41]⟩ : ByteArray)) := by show _ = _; rw [← hY6, byt_cat]
      clear zY1 zY2 zY3 zY4 zY5 zY6 za zb zd hz2 hz3 hz4 hz5
      have HY : Y6 = S := by
        rw [← HS.out]
        apply ba_ext
        rw [BY6.out, BY5.out, BY4.out, BY3.out, BY2.out, BY1.out, byt_txS, HTT.out, ← HSA.out, ← HSB.out, ← HDS.out]
        rfl
      rw [HY] at hY6
      clear HY BY6
      clear q0
      have q0 := hk.cell_ 0 rfl
      have q1 := hk.cell_ 1 rfl
      have q2 := hk.cell_ 2 rfl
      have q3 := hk.cell_ 3 rfl
      have HCA : Hid (∀ w, TreeAt w L w.heap.size f ta ⟨o1, n1, p1, A1, k1, d1⟩ → Calls Tryd.prog 83 #[.agg #[.int .i64 o1, .int .i64 n1, .int .u8 p1, .slice A1 k1 d1]] w fun e w' => e = .returned (.string Sa) ∧ Below w.heap.size w w') := fun w h => HH.out ta o1 n1 p1 A1 k1 d1 L w HRA.out HHA.out h Sa HSA.out
      have HCB : Hid (∀ w, TreeAt w L w.heap.size f tb ⟨o2, n2, p2, A2, k2, d2⟩ → Calls Tryd.prog 83 #[.agg #[.int .i64 o2, .int .i64 n2, .int .u8 p2, .slice A2 k2 d2]] w fun e w' => e = .returned (.string Sb) ∧ Below w.heap.size w w') := fun w h => HH.out tb o2 n2 p2 A2 k2 d2 L w HRB.out HHB.out h Sb HSB.out
      have q1 := hk.cell_ 1 (v := .int .i64 m) rfl
      have q3 := hk.cell_ 3 (v := .slice (some ⟨pb, off, none⟩) t.ts.length c) rfl
      go_wp2_with fail
      go_wp2_with fail
      refine wp_region_quiet (C := fun w' => ∃ u : Since W, w' = u.w) (by kernel_rfl) (by kernel_rfl) (Since.start W) ?_
      dsimp only
      have y_q0 := Since.cell q0
      have y_q1 := Since.cell q1
      have y_q2 := Since.cell q2
      have y_q3 := Since.cell q3
      have y_e0 := Since.cell e0
      have y_e1 := Since.cell e1
      have y_e2 := Since.cell e2
      have y_e3 := Since.cell e3
      have y_x0 := Since.cell x0
      have y_x1 := Since.cell x1
      have y_x2 := Since.cell x2
      have y_x3 := Since.cell x3
      have y_x1b := Since.cell x1b
      have y_x2b := Since.cell x2b
      have y_x3b := Since.cell x3b
      clear q0 q1 q2 q3
      repeat (go_big_quiet_step ((first | (go_at_call 103; exact Since.calls_same (digits_is m m2 HDS.out _)) | (go_at_call 83; with_reducible exact Since.calls (HCA.out _ (TreeAt.on HTA.out (Since.h _)))) | (go_at_call 83; with_reducible exact Since.calls (HCB.out _ (TreeAt.on HTB.out (Since.h _)))))))
      refine wpQuiet_nil ?_
      rintro W ⟨⟨_, hb⟩, rfl⟩
      try dsimp only at hb ⊢
      replace e0 : W.cell? _ = _ := y_e0 ⟨W, hb⟩
      replace e1 : W.cell? _ = _ := y_e1 ⟨W, hb⟩
      replace e2 : W.cell? _ = _ := y_e2 ⟨W, hb⟩
      replace e3 : W.cell? _ = _ := y_e3 ⟨W, hb⟩
      replace x0 : W.cell? _ = _ := y_x0 ⟨W, hb⟩
      replace x1 : W.cell? _ = _ := y_x1 ⟨W, hb⟩
      replace x2 : W.cell? _ = _ := y_x2 ⟨W, hb⟩
      replace x3 : W.cell? _ = _ := y_x3 ⟨W, hb⟩
      replace x1b : W.cell? _ = _ := y_x1b ⟨W, hb⟩
      replace x2b : W.cell? _ = _ := y_x2b ⟨W, hb⟩
      replace x3b : W.cell? _ = _ := y_x3b ⟨W, hb⟩
      clear y_q0 y_q1 y_q2 y_q3 y_e0 y_e1 y_e2 y_e3 y_x0 y_x1 y_x2 y_x3 y_x1b y_x2b y_x3b
      replace hk := hk.below hb hk.lt
      replace hB := hB.trans (hb.mono hB.size)
      clear hb
      have q0 := hk.cell_ 0 rfl
      have q1 := hk.cell_ 1 rfl
      have q2 := hk.cell_ 2 rfl
      have q3 := hk.cell_ 3 rfl
      go_wp2_with fail
      go_ret
      exact ⟨rfl, hB⟩
    · have g3 : (op == 3) = false := by simp [o3]
      rw [if_neg o3] at HTT
      clear c1 o3
      have hz2 : (⟨#[104, 32]⟩ : ByteArray).size = 2 := rfl
      have hz3 : (⟨#[32, 40]⟩ : ByteArray).size = 2 := rfl
      have hz4 : (⟨#[44, 32]⟩ : ByteArray).size = 2 := rfl
      have hz5 : (⟨#[41]⟩ : ByteArray).size = 1 := rfl
      obtain ⟨Y1, hY1⟩ : ∃ x, (⟨#[104, 32]⟩ : ByteArray) ++ D = x := ⟨_, rfl⟩
      have zY1 : Y1.size = (⟨#[104, 32]⟩ : ByteArray).size + D.size := by rw [← hY1, size_cat]
      have kY1 : ¬ 9223372036854775807 < 2 + D.size := by omega
      have BY1 : Hid (byt Y1 = byt (⟨#[104, 32]⟩ : ByteArray) ++ byt D) := by show _ = _; rw [← hY1, byt_cat]
      obtain ⟨Y2, hY2⟩ : ∃ x, Y1 ++ (⟨#[32, 40]⟩ : ByteArray) = x := ⟨_, rfl⟩
      have zY2 : Y2.size = Y1.size + (⟨#[32, 40]⟩ : ByteArray).size := by rw [← hY2, size_cat]
      have kY2 : ¬ 9223372036854775807 < Y1.size + 2 := by omega
      have BY2 : Hid (byt Y2 = byt Y1 ++ byt (⟨#[32, 40]⟩ : ByteArray)) := by show _ = _; rw [← hY2, byt_cat]
      obtain ⟨Y3, hY3⟩ : ∃ x, Y2 ++ Sa = x := ⟨_, rfl⟩
      have zY3 : Y3.size = Y2.size + Sa.size := by rw [← hY3, size_cat]
      have kY3 : ¬ 9223372036854775807 < Y2.size + Sa.size := by omega
      have BY3 : Hid (byt Y3 = byt Y2 ++ byt Sa) := by show _ = _; rw [← hY3, byt_cat]
      obtain ⟨Y4, hY4⟩ : ∃ x, Y3 ++ (⟨#[44, 32]⟩ : ByteArray) = x := ⟨_, rfl⟩
      have zY4 : Y4.size = Y3.size + (⟨#[44, 32]⟩ : ByteArray).size := by rw [← hY4, size_cat]
      have kY4 : ¬ 9223372036854775807 < Y3.size + 2 := by omega
      have BY4 : Hid (byt Y4 = byt Y3 ++ byt (⟨#[44, 32]⟩ : ByteArray)) := by show _ = _; rw [← hY4, byt_cat]
      obtain ⟨Y5, hY5⟩ : ∃ x, Y4 ++ Sb = x := ⟨_, rfl⟩
      have zY5 : Y5.size = Y4.size + Sb.size := by rw [← hY5, size_cat]
      have kY5 : ¬ 9223372036854775807 < Y4.size + Sb.size := by omega
      have BY5 : Hid (byt Y5 = byt Y4 ++ byt Sb) := by show _ = _; rw [← hY5, byt_cat]
      obtain ⟨Y6, hY6⟩ : ∃ x, Y5 ++ (⟨#[41]⟩ : ByteArray) = x := ⟨_, rfl⟩
      have zY6 : Y6.size = Y5.size + (⟨#[41]⟩ : ByteArray).size := by rw [← hY6, size_cat]
      have kY6 : ¬ 9223372036854775807 < Y5.size + 1 := by omega
      have BY6 : Hid (byt Y6 = byt Y5 ++ byt (⟨#[41]⟩ : ByteArray)) := by show _ = _; rw [← hY6, byt_cat]
      clear zY1 zY2 zY3 zY4 zY5 zY6 za zb zd hz2 hz3 hz4 hz5
      have HY : Y6 = S := by
        rw [← HS.out]
        apply ba_ext
        rw [BY6.out, BY5.out, BY4.out, BY3.out, BY2.out, BY1.out, byt_txS, HTT.out, ← HSA.out, ← HSB.out, ← HDS.out]
        rfl
      rw [HY] at hY6
      clear HY BY6
      clear q0
      have q0 := hk.cell_ 0 rfl
      have q1 := hk.cell_ 1 rfl
      have q2 := hk.cell_ 2 rfl
      have q3 := hk.cell_ 3 rfl
      have HCA : Hid (∀ w, TreeAt w L w.heap.size f ta ⟨o1, n1, p1, A1, k1, d1⟩ → Calls Tryd.prog 83 #[.agg #[.int .i64 o1, .int .i64 n1, .int .u8 p1, .slice A1 k1 d1]] w fun e w' => e = .returned (.string Sa) ∧ Below w.heap.size w w') := fun w h => HH.out ta o1 n1 p1 A1 k1 d1 L w HRA.out HHA.out h Sa HSA.out
      have HCB : Hid (∀ w, TreeAt w L w.heap.size f tb ⟨o2, n2, p2, A2, k2, d2⟩ → Calls Tryd.prog 83 #[.agg #[.int .i64 o2, .int .i64 n2, .int .u8 p2, .slice A2 k2 d2]] w fun e w' => e = .returned (.string Sb) ∧ Below w.heap.size w w') := fun w h => HH.out tb o2 n2 p2 A2 k2 d2 L w HRB.out HHB.out h Sb HSB.out
      have q1 := hk.cell_ 1 (v := .int .i64 m) rfl
      have q3 := hk.cell_ 3 (v := .slice (some ⟨pb, off, none⟩) t.ts.length c) rfl
      go_wp2_with fail
      go_wp2_with fail
      refine wp_region_quiet (C := fun w' => ∃ u : Since W, w' = u.w) (by kernel_rfl) (by kernel_rfl) (Since.start W) ?_
      dsimp only
      have y_q0 := Since.cell q0
      have y_q1 := Since.cell q1
      have y_q2 := Since.cell q2
      have y_q3 := Since.cell q3
      have y_e0 := Since.cell e0
      have y_e1 := Since.cell e1
      have y_e2 := Since.cell e2
      have y_e3 := Since.cell e3
      have y_x0 := Since.cell x0
      have y_x1 := Since.cell x1
      have y_x2 := Since.cell x2
      have y_x3 := Since.cell x3
      have y_x1b := Since.cell x1b
      have y_x2b := Since.cell x2b
      have y_x3b := Since.cell x3b
      clear q0 q1 q2 q3
      repeat (go_big_quiet_step ((first | (go_at_call 103; exact Since.calls_same (digits_is m m2 HDS.out _)) | (go_at_call 83; with_reducible exact Since.calls (HCA.out _ (TreeAt.on HTA.out (Since.h _)))) | (go_at_call 83; with_reducible exact Since.calls (HCB.out _ (TreeAt.on HTB.out (Since.h _)))))))
      refine wpQuiet_nil ?_
      rintro W ⟨⟨_, hb⟩, rfl⟩
      try dsimp only at hb ⊢
      replace e0 : W.cell? _ = _ := y_e0 ⟨W, hb⟩
      replace e1 : W.cell? _ = _ := y_e1 ⟨W, hb⟩
      replace e2 : W.cell? _ = _ := y_e2 ⟨W, hb⟩
      replace e3 : W.cell? _ = _ := y_e3 ⟨W, hb⟩
      replace x0 : W.cell? _ = _ := y_x0 ⟨W, hb⟩
      replace x1 : W.cell? _ = _ := y_x1 ⟨W, hb⟩
      replace x2 : W.cell? _ = _ := y_x2 ⟨W, hb⟩
      replace x3 : W.cell? _ = _ := y_x3 ⟨W, hb⟩
      replace x1b : W.cell? _ = _ := y_x1b ⟨W, hb⟩
      replace x2b : W.cell? _ = _ := y_x2b ⟨W, hb⟩
      replace x3b : W.cell? _ = _ := y_x3b ⟨W, hb⟩
      clear y_q0 y_q1 y_q2 y_q3 y_e0 y_e1 y_e2 y_e3 y_x0 y_x1 y_x2 y_x3 y_x1b y_x2b y_x3b
      replace hk := hk.below hb hk.lt
      replace hB := hB.trans (hb.mono hB.size)
      clear hb
      have q0 := hk.cell_ 0 rfl
      have q1 := hk.cell_ 1 rfl
      have q2 := hk.cell_ 2 rfl
      have q3 := hk.cell_ 3 rfl
      go_wp2_with fail
      go_ret
      exact ⟨rfl, hB⟩
theorem rtext_all : ∀ f, RTextAt f
  | 0 => fun t op n pc A k c L w hr hh h => h.elim
  | f + 1 => rtext_step f (rtext_all f)
end Go.Proofs.YtecaaimaeaocbaaDoor
