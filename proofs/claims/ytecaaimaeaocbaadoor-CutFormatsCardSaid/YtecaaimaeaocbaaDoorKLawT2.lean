/- CutParses and CutFormats: the walks. -/
import Derived.Test.YtecaaimaeaocbaaDoorKFormat
import Derived.Test.YtecaaimaeaocbaaDoorKRParse
import Derived.Test.YtecaaimaeaocbaaDoorKUsed
import Derived.Test.YtecaaimaeaocbaaDoorKBig
namespace Go.Proofs.YtecaaimaeaocbaaDoor
open Go Go.RowKit
theorem TabB.first {w w' : World} (h : TabB w.heap.size w) (hb : Below w.heap.size w w') : TabB w'.heap.size w' := fun w2 h2 => h w2 (hb.trans (h2.mono hb.size))
/-- what a text is whose tree is read without an error -/
theorem parse_back {s : ByteArray} (h : parseE s = 0) : fmtE (parseT s) = 0 ∧ fmtS (parseT s) = s := by
  obtain ⟨h1, h2, h3, h4⟩ := parse_zero h
  have hl : ¬ 2000 < (textT (parseT s)).length := by rw [← h2, byt_len]; omega
  obtain ⟨a, b⟩ := fmt_ok ((sh_ht h1 (f := 20)).2 h3) (right_rt h1 h3) hl
  exact ⟨a, by rw [b]; exact ba_ext (by rw [byt_txS, h2])⟩
/-- what is read of the text of a tree -/
theorem fmt_back {t : Tree} (h : fmtE t = 0) : parseE (fmtS t) = 0 ∧ parseT (fmtS t) = t ∧ shT 20 t = true := by
  cases hs : shT 20 t with
  | false => rw [(fmt_deep hs).1] at h; exact absurd h (by decide)
  | true =>
    cases hr : rtT 20 t with
    | false => rw [(fmt_form hs hr).1] at h; exact absurd h (by decide)
    | true =>
      by_cases hl : 2000 < (textT t).length
      · rw [(fmt_long hs hr hl).1] at h; exact absurd h (by decide)
      · have hR := rt_right hr
        have hht := (sh_ht hR (f := 20)).1 hs
        rw [(fmt_ok hs hr hl).2]
        have hz : (txS t).size = (textT t).length := by rw [← byt_len, byt_txS]
        have hp : parsed (txS t) = some t := parsed_of (by
          rw [byt_txS]
          have := text_cut hR (f := (txS t).size + 1) (r := []) (by omega) (by simp)
          rwa [List.append_nil] at this)
        obtain ⟨a, b⟩ := parse_ok (by omega) hp (by omega)
        exact ⟨a, b, rfl⟩
set_option maxRecDepth 100000 in
set_option maxHeartbeats 2000000 in
theorem cutParses_walk (s : ByteArray) (w : World) (hs : s.size ≤ maxLen) (htab : TabB w.heap.size w) :
    Calls Tryd.prog 10 #[.string s] w fun e w' => e = .returned (.bool true) ∧ Below w.heap.size w w' := by
  unfold maxLen at hs
  have hB := Below.refl w.heap.size w
  go_enter Tryd.func10, Tryd.ntmps10
  by_cases h1 : 3000 < s.size
  · have f1 : (3000 : Int) < (s.size : Int) := by omega
    go_wp2_with fail
    refine (kawake_any _).mono ?_
    rintro e W ⟨rfl, hb⟩
    replace hB := hB.trans (hb.mono hB.size)
    clear hb
    go_wp2_with fail
    go_ret
    exact ⟨rfl, hB⟩
  · have f1 : ¬ (3000 : Int) < (s.size : Int) := by omega
    have f1d : decide ((3000 : Int) < (s.size : Int)) = false := decide_eq_false f1
    have HTAB := hide htab
    clear htab
    go_wp2_with fail
    refine (parse_any s w).mono ?_
    rintro e W2 ⟨⟨op, n, pc, A1, k1, c1⟩, rfl, hT, hb⟩
    dsimp only
    replace hB := hB.trans (hb.mono hB.size)
    clear hb
    obtain ⟨E, hE⟩ : ∃ E, parseE s = E := ⟨_, rfl⟩
    rw [hE]
    have HEE := hide hE
    clear hE
    obtain ⟨t, ht⟩ : ∃ t, parseT s = t := ⟨_, rfl⟩
    rw [ht] at hT
    have HTT := hide ht
    clear ht
    have hb2 := (Below.refl W2.heap.size W2).alloc (Nat.le_refl _) (.cells #[.int .i64 op, .int .i64 n, .int .u8 pc, .slice A1 k1 c1] 60)
    have hm := Blk.new W2 60 #[.int .i64 op, .int .i64 n, .int .u8 pc, .slice A1 k1 c1]
    replace hB := hB.trans (hb2.mono hB.size)
    replace hT := hT.on hb2
    clear hb2
    go_upto_region 4 with fail
    generalize W2.alloc (.cells #[.int .i64 op, .int .i64 n, .int .u8 pc, .slice A1 k1 c1] 60) = W3 at *
    go_wp2_with fail
    refine (rparse_any s W3).mono ?_
    rintro e W4 ⟨⟨op2, n2, pc2, A2, k2, c2⟩, rfl, hT2, hb⟩
    dsimp only
    rw [HEE.out]
    rw [HTT.out] at hT2
    replace hT := hT.on hb
    replace hB := hB.trans (hb.mono hB.size)
    have lm := hm.lt
    replace hm := hm.below hb hm.lt
    clear hb
    have hb2 := (Below.refl W4.heap.size W4).alloc (Nat.le_refl _) (.cells #[.int .i64 op2, .int .i64 n2, .int .u8 pc2, .slice A2 k2 c2] 60)
    have hn := Blk.new W4 60 #[.int .i64 op2, .int .i64 n2, .int .u8 pc2, .slice A2 k2 c2]
    replace hB := hB.trans (hb2.mono hB.size)
    replace hT := hT.on hb2
    replace hT2 := hT2.on hb2
    replace hm := hm.below hb2 hm.lt
    clear hb2
    go_upto_region 5 with fail
    generalize W4.alloc (.cells #[.int .i64 op2, .int .i64 n2, .int .u8 pc2, .slice A2 k2 c2] 60) = W5 at *
    have m0 := hm.cell_ 0 (v := .int .i64 op) rfl
    have m1 := hm.cell_ 1 (v := .int .i64 n) rfl
    have m2 := hm.cell_ 2 (v := .int .u8 pc) rfl
    have m3 := hm.cell_ 3 (v := .slice A1 k1 c1) rfl
    have n0 := hn.cell_ 0 (v := .int .i64 op2) rfl
    have n1 := hn.cell_ 1 (v := .int .i64 n2) rfl
    have n2' := hn.cell_ 2 (v := .int .u8 pc2) rfl
    have n3 := hn.cell_ 3 (v := .slice A2 k2 c2) rfl
    go_wp2_with fail
    refine (same_all 20 t op n pc A1 k1 c1 op2 n2 pc2 A2 k2 c2 _ hT hT2).mono ?_
    rintro e W6 ⟨rfl, hb⟩
    replace hT := hT.on hb
    replace hm := hm.below hb hm.lt
    replace hB := hB.trans (hb.mono hB.size)
    clear hb hT2 hn m0 m1 m2 m3 n0 n1 n2' n3
    by_cases hE0 : E = 0
    · subst hE0
      obtain ⟨z1, z2⟩ := parse_back HEE.out
      rw [HTT.out] at z1 z2
      have HZ := hide (And.intro z1 z2)
      clear z1 z2
      have m0 := hm.cell_ 0 (v := .int .i64 op) rfl
      have m1 := hm.cell_ 1 (v := .int .i64 n) rfl
      have m2 := hm.cell_ 2 (v := .int .u8 pc) rfl
      have m3 := hm.cell_ 3 (v := .slice A1 k1 c1) rfl
      go_wp2_with fail
      refine (format_any t op n pc A1 k1 c1 20 _ hT (HTAB.out.first hB)).mono ?_
      rintro e W7 ⟨rfl, hb⟩
      rw [HZ.out.1, HZ.out.2]
      replace hB := hB.trans (hb.mono hB.size)
      clear hb hT hm m0 m1 m2 m3
      go_wp2_with fail
      refine (kawake_any _).mono ?_
      rintro e W ⟨rfl, hb⟩
      replace hB := hB.trans (hb.mono hB.size)
      clear hb
      go_wp2_with fail
      go_ret
      exact ⟨rfl, hB⟩
    · have g1 : (E == 0) = false := by rw [beq_eq_false_iff_ne]; exact hE0
      clear hT hm
      go_wp2_with fail
      refine (kawake_any _).mono ?_
      rintro e W ⟨rfl, hb⟩
      replace hB := hB.trans (hb.mono hB.size)
      clear hb
      go_wp2_with fail
      go_ret
      exact ⟨rfl, hB⟩
set_option maxRecDepth 100000 in
set_option maxHeartbeats 2000000 in
theorem cutFormats_walk (t : Tree) (op n pc : Int) (A : Option Addr) (k c f : Nat) (w : World) (hT : TreeAt w 0 w.heap.size f t ⟨op, n, pc, A, k, c⟩) (htab : TabB w.heap.size w) :
    Calls Tryd.prog 11 #[.agg #[.int .i64 op, .int .i64 n, .int .u8 pc, .slice A k c]] w fun e w' => e = .returned (.bool true) ∧ Below w.heap.size w w' := by
  have HTAB := hide htab
  clear htab
  have hk := (Blk.new w 60 #[.int .i64 op, .int .i64 n, .int .u8 pc, .slice A k c]).alloc (.cells #[.int .i64 600] 3)
  have hm := Blk.new (w.alloc (.cells #[.int .i64 op, .int .i64 n, .int .u8 pc, .slice A k c] 60)) 3 #[.int .i64 600]
  have hB := ((Below.refl w.heap.size w).alloc (Nat.le_refl _) (.cells #[.int .i64 op, .int .i64 n, .int .u8 pc, .slice A k c] 60)).alloc (by simp) (.cells #[.int .i64 600] 3)
  rw [show (w.alloc (.cells #[.int .i64 op, .int .i64 n, .int .u8 pc, .slice A k c] 60)).heap.size = w.heap.size + 1 by simp] at hm
  go_enter Tryd.func11, Tryd.ntmps11
  go_upto_region 2 with fail
  generalize (w.alloc (.cells #[.int .i64 op, .int .i64 n, .int .u8 pc, .slice A k c] 60)).alloc (.cells #[.int .i64 600] 3) = W at *
  replace hT := hT.belowB hB (Nat.le_refl _)
  have q0 := hk.cell_ 0 (v := .int .i64 op) rfl
  have q1 := hk.cell_ 1 (v := .int .i64 n) rfl
  have q2 := hk.cell_ 2 (v := .int .u8 pc) rfl
  have q3 := hk.cell_ 3 (v := .slice A k c) rfl
  go_wp2_with fail
  refine (big_all 60 (by omega) t op n pc A k c w.heap.size f (w.heap.size + 1) 600 _ hT (by omega) hm (by omega) (by omega)).mono ?_
  rintro e W2 ⟨b, nd, rfl, hm2, -, -, hc⟩
  replace hT := hT.chgB hc (by omega) hm.lt
  replace hk := hk.chg1 hc (by omega)
  replace hB := hB.trans (hc.below1 hB.size (by omega))
  clear hm hm2 hc q0 q1 q2 q3
  cases b with
  | true =>
    clear hT hk
    go_wp2_with fail
    refine (kawake_any _).mono ?_
    rintro e W ⟨rfl, hb⟩
    replace hB := hB.trans (hb.mono hB.size)
    clear hb
    go_wp2_with fail
    go_ret
    exact ⟨rfl, hB⟩
  | false =>
    obtain ⟨E, hE⟩ : ∃ E, fmtE t = E := ⟨_, rfl⟩
    obtain ⟨S, hS⟩ : ∃ S, fmtS t = S := ⟨_, rfl⟩
    have HE := hide hE
    have HS := hide hS
    clear hE hS
    replace hT := hT.more (Nat.le_refl 0) hB.size
    have q0 := hk.cell_ 0 rfl
    have q1 := hk.cell_ 1 rfl
    have q2 := hk.cell_ 2 rfl
    have q3 := hk.cell_ 3 rfl
    go_wp2_with fail
    refine (format_any t op n pc A k c f _ hT (HTAB.out.first hB)).mono ?_
    rintro e W3 ⟨rfl, hb⟩
    rw [HE.out, HS.out]
    replace hT := hT.on hb
    replace hk := hk.below hb hk.lt
    replace hB := hB.trans (hb.mono hB.size)
    clear hb q0 q1 q2 q3
    have q0 := hk.cell_ 0 (v := .int .i64 op) rfl
    have q1 := hk.cell_ 1 (v := .int .i64 n) rfl
    have q2 := hk.cell_ 2 (v := .int .u8 pc) rfl
    have q3 := hk.cell_ 3 (v := .slice A k c) rfl
    go_wp2_with fail
    refine (rformat_any t op n pc A k c 0 f _ hT).mono ?_
    rintro e W4 ⟨rfl, hb⟩
    rw [HE.out, HS.out]
    replace hT := hT.on hb
    replace hk := hk.below hb hk.lt
    replace hB := hB.trans (hb.mono hB.size)
    clear hb q0 q1 q2 q3
    by_cases hE0 : E = 0
    · subst hE0
      obtain ⟨z1, z2, z3⟩ := fmt_back HE.out
      rw [HS.out] at z1 z2
      have HZ := hide (And.intro z1 z2)
      replace hT := hT.cut_ z3
      clear z1 z2 z3
      go_wp2_with fail
      refine (parse_any S W4).mono ?_
      rintro e W5 ⟨⟨op2, n2, pc2, A2, k2, c2⟩, rfl, hT2, hb⟩
      dsimp only
      rw [HZ.out.1]
      rw [HZ.out.2] at hT2
      replace hT := hT.on hb
      replace hk := hk.below hb hk.lt
      replace hB := hB.trans (hb.mono hB.size)
      clear hb
      have hb2 := (Below.refl W5.heap.size W5).alloc (Nat.le_refl _) (.cells #[.int .i64 op2, .int .i64 n2, .int .u8 pc2, .slice A2 k2 c2] 60)
      have hn := Blk.new W5 60 #[.int .i64 op2, .int .i64 n2, .int .u8 pc2, .slice A2 k2 c2]
      replace hB := hB.trans (hb2.mono hB.size)
      replace hT := hT.on hb2
      replace hT2 := hT2.on hb2
      replace hk := hk.below hb2 hk.lt
      clear hb2
      go_upto_region 11 with fail
      generalize W5.alloc (.cells #[.int .i64 op2, .int .i64 n2, .int .u8 pc2, .slice A2 k2 c2] 60) = W6 at *
      have q0 := hk.cell_ 0 (v := .int .i64 op) rfl
      have q1 := hk.cell_ 1 (v := .int .i64 n) rfl
      have q2 := hk.cell_ 2 (v := .int .u8 pc) rfl
      have q3 := hk.cell_ 3 (v := .slice A k c) rfl
      have n0 := hn.cell_ 0 (v := .int .i64 op2) rfl
      have n1 := hn.cell_ 1 (v := .int .i64 n2) rfl
      have n2' := hn.cell_ 2 (v := .int .u8 pc2) rfl
      have n3 := hn.cell_ 3 (v := .slice A2 k2 c2) rfl
      go_wp2_with fail
      refine (same_all 20 t op n pc A k c op2 n2 pc2 A2 k2 c2 _ hT hT2).mono ?_
      rintro e W7 ⟨rfl, hb⟩
      replace hB := hB.trans (hb.mono hB.size)
      clear hb hT hT2 hk hn q0 q1 q2 q3 n0 n1 n2' n3
      go_wp2_with fail
      refine (kawake_any _).mono ?_
      rintro e W ⟨rfl, hb⟩
      replace hB := hB.trans (hb.mono hB.size)
      clear hb
      go_wp2_with fail
      go_ret
      exact ⟨rfl, hB⟩
    · have g1 : (E == 0) = false := by rw [beq_eq_false_iff_ne]; exact hE0
      clear hT hk
      go_wp2_with fail
      refine (kawake_any _).mono ?_
      rintro e W ⟨rfl, hb⟩
      replace hB := hB.trans (hb.mono hB.size)
      clear hb
      go_wp2_with fail
      go_ret
      exact ⟨rfl, hB⟩
end Go.Proofs.YtecaaimaeaocbaaDoor
