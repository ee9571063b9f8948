/- Parse of the document: the same answer. -/
import Derived.Test.YtecaaimaeaocbaaDoorKRCut
import Derived.Test.YtecaaimaeaocbaaDoorKParse
namespace Go.Proofs.YtecaaimaeaocbaaDoor
open Go Go.RowKit
set_option maxRecDepth 100000 in
set_option maxHeartbeats 4000000 in
theorem rparse_any (s : ByteArray) (w : World) : Calls Tryd.prog 39 #[.string s] w fun e w' => ParsePost s w e w' := by
  by_cases hl : 2000 < s.size
  · have HE := hide (parse_long hl)
    have f1 : (2000 : Int) < (s.size : Int) := by omega
    clear hl
    have hr := Blk.new w 60 #[.int .i64 0, .int .i64 0, .int .u8 0, .slice none 0 0]
    have hB := (Below.refl w.heap.size w).alloc (Nat.le_refl _) (.cells #[.int .i64 0, .int .i64 0, .int .u8 0, .slice none 0 0] 60)
    go_enter Tryd.func39, Tryd.ntmps39
    go_upto_region 1 with fail
    generalize w.alloc (.cells #[.int .i64 0, .int .i64 0, .int .u8 0, .slice none 0 0] 60) = W at *
    go_wp2_with (refine wpList_store_blk rfl 60 _ _ rfl #[.int .i64 0, .int .i64 0, .int .u8 0, .slice none 0 0] hr rfl rfl (by kernel_rfl) rfl (by simp [Value.oneCell']) ?_; intro W3 hr3 hc3; have r0 := hr3.cell_ 0 rfl; have r1 := hr3.cell_ 1 rfl; have r2 := hr3.cell_ 2 rfl; have r3 := hr3.cell_ 3 rfl)
    refine bodyPost_ret (v := .tuple #[.agg #[.int .i64 0, .int .i64 0, .int .u8 0, .slice none 0 0], .int .i64 43]) (by simp [results, Tryd.results39, go_sem, r0, r1, r2, r3]) rfl ⟨⟨0, 0, 0, none, 0, 0⟩, by rw [HE.out.1], by rw [HE.out.2]; exact leaf0_at _ _, hB.trans (hc3.below1 hB.size (Nat.le_refl _))⟩
  · have f1 : ¬ (2000 : Int) < (s.size : Int) := by omega
    have HL := hide hl
    have hs : Hid (s.size ≤ 1000000) := by show _ ≤ _; omega
    clear hl
    have hr := ((Blk.new w 60 #[.int .i64 0, .int .i64 0, .int .u8 0, .slice none 0 0]).alloc (.cells #[.string s, .int .i64 0, .bool false] 108)).alloc (.cells #[.int .i64 0] 3)
    have hk := (Blk.new (w.alloc (.cells #[.int .i64 0, .int .i64 0, .int .u8 0, .slice none 0 0] 60)) 108 #[.string s, .int .i64 0, .bool false]).alloc (.cells #[.int .i64 0] 3)
    have hd := Blk.new ((w.alloc (.cells #[.int .i64 0, .int .i64 0, .int .u8 0, .slice none 0 0] 60)).alloc (.cells #[.string s, .int .i64 0, .bool false] 108)) 3 #[.int .i64 0]
    have hB := (((Below.refl w.heap.size w).alloc (Nat.le_refl _) (.cells #[.int .i64 0, .int .i64 0, .int .u8 0, .slice none 0 0] 60)).alloc (by simp) (.cells #[.string s, .int .i64 0, .bool false] 108)).alloc (by simp; omega) (.cells #[.int .i64 0] 3)
    rw [show ((w.alloc (.cells #[.int .i64 0, .int .i64 0, .int .u8 0, .slice none 0 0] 60)).alloc (.cells #[.string s, .int .i64 0, .bool false] 108)).heap.size = w.heap.size + 1 + 1 by simp] at hd
    rw [show (w.alloc (.cells #[.int .i64 0, .int .i64 0, .int .u8 0, .slice none 0 0] 60)).heap.size = w.heap.size + 1 by simp] at hk
    go_enter Tryd.func39, Tryd.ntmps39
    go_upto_region 5 with fail
    generalize ((w.alloc (.cells #[.int .i64 0, .int .i64 0, .int .u8 0, .slice none 0 0] 60)).alloc (.cells #[.string s, .int .i64 0, .bool false] 108)).alloc (.cells #[.int .i64 0] 3) = W at *
    go_wp2_with fail
    refine (rcut_all (s.size + 1) (w.heap.size + 1) (w.heap.size + 1 + 1) s 0 false 1 0 W (Nat.lt_succ_self _) (Nat.zero_le _) hs.out (Nat.le_refl _) (by have := hs.out; omega) (by omega) (by omega) hk hd).mono ?_
    rintro e W2 ⟨⟨op, n, pc, A, k, c⟩, i2, b2, m, rfl, hi2, hk2, hd2, hc2, hm2, H2⟩
    dsimp only
    rw [List.drop_zero] at H2
    replace H2 := hide H2
    replace hr := hr.chg hc2 (by omega)
    replace hB := hB.trans (hc2.to_below hB.size fun k h1 h2 => by omega)
    have lW : w.heap.size + 2 < W.heap.size ∧ W.heap.size ≤ W2.heap.size := ⟨hd.lt, hc2.size⟩
    clear hk hd hc2
    have hm := Blk.new W2 60 #[.int .i64 op, .int .i64 n, .int .u8 pc, .slice A k c]
    have hk := hk2.alloc (.cells #[.int .i64 op, .int .i64 n, .int .u8 pc, .slice A k c] 60)
    have hd := hd2.alloc (.cells #[.int .i64 op, .int .i64 n, .int .u8 pc, .slice A k c] 60)
    replace hr := hr.alloc (.cells #[.int .i64 op, .int .i64 n, .int .u8 pc, .slice A k c] 60)
    have hb2 := (Below.refl W2.heap.size W2).alloc (Nat.le_refl _) (.cells #[.int .i64 op, .int .i64 n, .int .u8 pc, .slice A k c] 60)
    replace hB := hB.trans (hb2.mono hB.size)
    have hKt := (Keeps.refl W.heap.size W2.heap.size W2).below hb2 (Nat.le_refl _)
    clear hk2 hd2 hb2
    go_upto_region 6 with fail
    generalize W2.alloc (.cells #[.int .i64 op, .int .i64 n, .int .u8 pc, .slice A k c] 60) = W3 at *
    have q0 := hk.cell_ 0 (v := .string s) rfl
    have q1 := hk.cell_ 1 (v := .int .i64 i2) rfl
    have q2 := hk.cell_ 2 (v := .bool b2) rfl
    have e0 := hd.cell_ 0 (v := .int .i64 m) rfl
    cases b2 with
    | true =>
      have HE := hide (parse_form HL.out (parsed_none ((H2.out.no rfl).resolve_left (by decide))))
      clear H2
      go_upto_region 7 with fail
      clear q0 q1 q2 hk hm hKt
      go_wp2_with (refine wpList_store_blk rfl 60 _ _ rfl #[.int .i64 0, .int .i64 0, .int .u8 0, .slice none 0 0] hr rfl rfl (by kernel_rfl) rfl (by simp [Value.oneCell']) ?_; intro W3 hr3 hc3; have r0 := hr3.cell_ 0 rfl; have r1 := hr3.cell_ 1 rfl; have r2 := hr3.cell_ 2 rfl; have r3 := hr3.cell_ 3 rfl)
      refine bodyPost_ret (v := .tuple #[.agg #[.int .i64 0, .int .i64 0, .int .u8 0, .slice none 0 0], .int .i64 4]) (by simp [results, Tryd.results39, go_sem, r0, r1, r2, r3]) rfl ⟨⟨0, 0, 0, none, 0, 0⟩, by rw [HE.out.1], by rw [HE.out.2]; exact leaf0_at _ _, hB.trans (hc3.below1 hB.size (Nat.le_refl _))⟩
    | false =>
      obtain ⟨_, t, ht, hT, hmt⟩ := H2.out.ok rfl
      by_cases h0 : i2 = s.size
      · have f0 : ((i2 : Int) == (s.size : Int)) = true := by rw [beq_iff_eq]; omega
        have hn : (byt s).drop i2 = [] := List.drop_eq_nil_of_le (by rw [byt_len]; omega)
        rw [hn] at ht
        have hp := parsed_of ht
        obtain ⟨_, hR, hh⟩ := parsed_some hp
        have hT3 := hKt.tree (L' := W.heap.size) (Nat.le_refl _) (Nat.le_refl _) hT
        have HP := hide hp
        have HR := hide hR
        have HM : Hid (htT t = m) := by show _ = _; have := htT_pos t; omega
        obtain ⟨L0, hL0⟩ : ∃ L0, W.heap.size = L0 := ⟨_, rfl⟩
        have lL : w.heap.size < L0 := by omega
        rw [hL0] at hT3
        clear h0 hn ht hp hR hh hT H2 hKt hmt hL0
        have m0 := hm.cell_ 0 (v := .int .i64 op) rfl
        have m1 := hm.cell_ 1 (v := .int .i64 n) rfl
        have m2 := hm.cell_ 2 (v := .int .u8 pc) rfl
        have m3 := hm.cell_ 3 (v := .slice A k c) rfl
        by_cases h20 : 20 < m
        · have f2 : (20 : Int) < (m : Int) := by omega
          have HE := hide (parse_deep HL.out HP.out (by rw [HM.out]; exact h20))
          clear hT3
          go_upto_region 9 with fail
          clear q0 q1 q2 hk hm hd e0 m0 m1 m2 m3
          go_wp2_with (refine wpList_store_blk rfl 60 _ _ rfl #[.int .i64 0, .int .i64 0, .int .u8 0, .slice none 0 0] hr rfl rfl (by kernel_rfl) rfl (by simp [Value.oneCell']) ?_; intro W3 hr3 hc3; have r0 := hr3.cell_ 0 rfl; have r1 := hr3.cell_ 1 rfl; have r2 := hr3.cell_ 2 rfl; have r3 := hr3.cell_ 3 rfl)
          refine bodyPost_ret (v := .tuple #[.agg #[.int .i64 0, .int .i64 0, .int .u8 0, .slice none 0 0], .int .i64 43]) (by simp [results, Tryd.results39, go_sem, r0, r1, r2, r3]) rfl ⟨⟨0, 0, 0, none, 0, 0⟩, by rw [HE.out.1], by rw [HE.out.2]; exact leaf0_at _ _, hB.trans (hc3.below1 hB.size (Nat.le_refl _))⟩
        · have f2 : ¬ (20 : Int) < (m : Int) := by omega
          have HE := hide (parse_ok HL.out HP.out (by rw [HM.out]; exact h20))
          have HT := hide (hT3.cut_ ((sh_ht HR.out (f := 20)).2 (by rw [HM.out]; omega)))
          clear hT3
          go_wp2_with (refine wpList_store_blk rfl 60 _ _ rfl #[.int .i64 op, .int .i64 n, .int .u8 pc, .slice A k c] hr rfl rfl (by kernel_rfl) rfl (by simp [Value.oneCell']) ?_; intro W5 hr3 hc3; have r0 := hr3.cell_ 0 rfl; have r1 := hr3.cell_ 1 rfl; have r2 := hr3.cell_ 2 rfl; have r3 := hr3.cell_ 3 rfl)
          have hT5 := ((Keeps.refl L0 W3.heap.size W3).chg1 hc3 (Nat.le_refl _) (.inl lL)).tree (L' := 0) (Nat.le_refl _) (Nat.zero_le _) HT.out
          exact bodyPost_ret (v := .tuple #[.agg #[.int .i64 op, .int .i64 n, .int .u8 pc, .slice A k c], .int .i64 0]) (by simp [results, Tryd.results39, go_sem, r0, r1, r2, r3]) rfl ⟨⟨op, n, pc, A, k, c⟩, by rw [HE.out.1], by rw [HE.out.2]; exact hT5, hB.trans (hc3.below1 hB.size (Nat.le_refl _))⟩
      · have f0 : ((i2 : Int) == (s.size : Int)) = false := by rw [beq_eq_false_iff_ne]; omega
        have HE := hide (parse_form HL.out (parsed_rest ht (fun h => h0 (by
          have h1 := congrArg List.length h
          rw [List.length_drop, byt_len] at h1
          simp at h1; omega))))
        clear H2 ht hT hmt h0
        go_upto_region 7 with fail
        clear q0 q1 q2 hk hm hKt
        go_wp2_with (refine wpList_store_blk rfl 60 _ _ rfl #[.int .i64 0, .int .i64 0, .int .u8 0, .slice none 0 0] hr rfl rfl (by kernel_rfl) rfl (by simp [Value.oneCell']) ?_; intro W3 hr3 hc3; have r0 := hr3.cell_ 0 rfl; have r1 := hr3.cell_ 1 rfl; have r2 := hr3.cell_ 2 rfl; have r3 := hr3.cell_ 3 rfl)
        refine bodyPost_ret (v := .tuple #[.agg #[.int .i64 0, .int .i64 0, .int .u8 0, .slice none 0 0], .int .i64 4]) (by simp [results, Tryd.results39, go_sem, r0, r1, r2, r3]) rfl ⟨⟨0, 0, 0, none, 0, 0⟩, by rw [HE.out.1], by rw [HE.out.2]; exact leaf0_at _ _, hB.trans (hc3.below1 hB.size (Nat.le_refl _))⟩
end Go.Proofs.YtecaaimaeaocbaaDoor
