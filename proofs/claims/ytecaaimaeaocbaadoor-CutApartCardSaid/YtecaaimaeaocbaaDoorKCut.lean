/- The program's parser of cuts: sawn and cut. -/
import Derived.Test.YtecaaimaeaocbaaDoorKStep
import Derived.Deep.DeepCutAuto
namespace Go.Proofs.YtecaaimaeaocbaaDoor
open Go Go.RowKit
def CutPost (f g : Nat) (F : Bs → Option (Tree × Bs)) (s : ByteArray) (bad : Bool) (w : World) (e : Ending) (w' : World) : Prop :=
  ∃ (v : TV) (s' : ByteArray) (bad' : Bool), e = .returned (.agg #[.int .i64 v.op, .int .i64 v.n, .int .u8 v.pc, .slice v.A v.k v.c]) ∧ Blk w' g 103 #[.string s', .bool bad'] ∧ Chg (fun k => k = g) w w' ∧ StepR F (fun t => TreeAt w' w.heap.size w'.heap.size f t v) (byt s) bad (byt s') bad'
def CutAt (f : Nat) : Prop := ∀ (g : Nat) (s : ByteArray) (bad : Bool) (w : World), s.size < f → s.size ≤ 1000000 → Blk w g 103 #[.string s, .bool bad] →
  Calls Tryd.prog 74 #[.pointer (some ⟨g, 0, none⟩)] w fun e w' => CutPost f g (cutT f) s bad w e w'
def SawnAt (f : Nat) : Prop := ∀ (g : Nat) (s : ByteArray) (bad : Bool) (c : UInt8) (x : Nat) (w : World), c.toNat = x → s.size < f → s.size ≤ 1000000 → Blk w g 103 #[.string s, .bool bad] →
  Calls Tryd.prog 96 #[.pointer (some ⟨g, 0, none⟩), .int .u8 x] w fun e w' => CutPost (f + 1) g (sawnT f c) s bad w e w'
theorem chg_far {g : Nat} {w w' : World} (hc : Chg (fun i => i = g ∨ w.heap.size ≤ i) w w') : Chg (fun i => i = g) w w' := ⟨hc.os, hc.tape, hc.output, hc.size, fun k hk hn => hc.block k hk fun h => by
    rcases h with h | h
    · exact hn h
    · omega⟩
/-- g turns, and what is new since w -/
abbrev ChgG (g : Nat) (w w' : World) : Prop := Chg (fun i => i = g ∨ w.heap.size ≤ i) w w'
theorem ChgG.step {g b : Nat} {w a w' : World} (h : ChgG g w a) (hc : Chg (fun i => i = b) a w') (hb : b = g ∨ w.heap.size ≤ b) : ChgG g w w' := h.trans (hc.mono fun k _ hk => by subst hk; exact hb)
theorem ChgG.alloc_ {g : Nat} {w a : World} (h : ChgG g w a) (o : Obj) : ChgG g w (a.alloc o) := Chg.alloc h o
theorem s118 {c : UInt8} {x : Nat} (h : c.toNat = x) : (c == 118) = decide (x = 118) := by
  subst h
  rw [Bool.eq_iff_iff, beq_iff_eq, decide_eq_true_eq]
  constructor
  · rintro rfl; rfl
  · intro h; exact UInt8.toNat_inj.1 h
theorem str_empty (s : ByteArray) : s.toList.isEmpty = decide (s.size = 0) := by
  rw [ByteArray.toList_eq, Bool.eq_iff_iff, List.isEmpty_iff, decide_eq_true_eq]
  constructor
  · intro h
    have h2 := congrArg List.length h
    rw [Array.length_toList] at h2
    exact h2
  · intro h
    apply List.eq_nil_of_length_eq_zero
    rw [Array.length_toList]; exact h
set_option maxRecDepth 100000 in
set_option maxHeartbeats 4000000 in
theorem sawn_step (f : Nat) (H : CutAt f) : SawnAt f := by
  intro g s0 b0 c x w hx hf hs hk
  have hgl := hk.lt
  have HS := hide hs
  have HF := hide hf
  have HX := hide hx
  have HH := hide H
  clear hs hf hx H
  have hr := (Blk.new w 60 #[.int .i64 0, .int .i64 0, .int .u8 0, .slice none 0 0]).alloc (.cells #[.int .i64 2, .int .i64 0, .int .u8 0, .slice none 0 0] 60)
  have ht := Blk.new (w.alloc (.cells #[.int .i64 0, .int .i64 0, .int .u8 0, .slice none 0 0] 60)) 60 #[.int .i64 2, .int .i64 0, .int .u8 0, .slice none 0 0]
  rw [show (w.alloc (.cells #[.int .i64 0, .int .i64 0, .int .u8 0, .slice none 0 0] 60)).heap.size = w.heap.size + 1 by simp] at ht
  replace hk := (hk.alloc (.cells #[.int .i64 0, .int .i64 0, .int .u8 0, .slice none 0 0] 60)).alloc (.cells #[.int .i64 2, .int .i64 0, .int .u8 0, .slice none 0 0] 60)
  have hC : ChgG g w _ := ChgG.alloc_ (ChgG.alloc_ (Chg.refl _ w) (.cells #[.int .i64 0, .int .i64 0, .int .u8 0, .slice none 0 0] 60)) (.cells #[.int .i64 2, .int .i64 0, .int .u8 0, .slice none 0 0] 60)
  go_enter Tryd.func96, Tryd.ntmps96
  go_upto_if 10 with fail
  generalize (w.alloc (.cells #[.int .i64 0, .int .i64 0, .int .u8 0, .slice none 0 0] 60)).alloc (.cells #[.int .i64 2, .int .i64 0, .int .u8 0, .slice none 0 0] 60) = W at *
  obtain ⟨op, hop⟩ : ∃ op : Int, (if c == 118 then 3 else 2) = op := ⟨_, rfl⟩
  have HOP := hide hop
  clear hop
  go_cut [] (fun wx => Blk wx g 103 #[.string s0, .bool b0] ∧ Blk wx w.heap.size 60 #[.int .i64 0, .int .i64 0, .int .u8 0, .slice none 0 0] ∧ Blk wx (w.heap.size + 1) 60 #[.int .i64 op, .int .i64 0, .int .u8 0, .slice none 0 0] ∧ ChgG g w wx)
  case first =>
    by_cases hc : x = 118
    · have f1 : ((x : Int) == 118) = true := by simp [hc]
      have hop3 : op = 3 := by rw [← HOP.out, s118 HX.out, decide_eq_true hc]; rfl
      clear hc
      go_wp2_with (refine wpList_store_at rfl 3 _ _ rfl (.int .i64 3) ht rfl rfl (by kernel_rfl) rfl (by simp) rfl ?_; intro W3 ht3 hc3)
      go_meet
      exact ⟨hk.chg1 hc3 (by omega), hr.chg1 hc3 (by omega), by rw [hop3]; exact ht3, hC.step hc3 (.inr (by omega))⟩
    · have f1 : ((x : Int) == 118) = false := by simp; omega
      have hop3 : op = 2 := by rw [← HOP.out, s118 HX.out, decide_eq_false hc]; rfl
      clear hc
      go_wp2_with fail
      go_meet
      exact ⟨hk, hr, by rw [hop3]; exact ht, hC⟩
  case rest =>
    clear hk hr ht hC
    obtain ⟨hk, hr, ht, hC⟩ := hcut
    go_wp2_with fail
    refine (word_r g s0 ⟨#[32]⟩ b0 _ hk).mono ?_
    rintro e W2 ⟨s1, b1, rfl, hk2, hc2, H1⟩
    clear hk
    have hk := hk2
    clear hk2
    replace hr := hr.chg1 hc2 (by omega)
    replace ht := ht.chg1 hc2 (by omega)
    replace hC := hC.step hc2 (.inl rfl)
    have z1 : Hid (s1.size ≤ s0.size) := by have := H1.len; rw [byt_len, byt_len] at this; exact this
    replace H1 := hide H1
    clear hc2
    go_wp2_with fail
    refine (number_any g s1 b1 _ (Nat.le_trans z1.out HS.out) hk).mono ?_
    rintro e W2 ⟨v, s2, b2, rfl, hv, hk2, hc2, H2⟩
    clear hk
    have hk := hk2
    clear hk2
    replace hr := hr.chg1 hc2 (by omega)
    replace ht := ht.chg1 hc2 (by omega)
    replace hC := hC.step hc2 (.inl rfl)
    have z2 : Hid (s2.size ≤ s1.size) := H2.size
    replace H2 := hide H2
    clear hc2
    go_wp2_with (refine wpList_store_at rfl 3 _ _ rfl (.int .i64 v) ht rfl rfl (by kernel_rfl) rfl (by simp) rfl ?_; intro W3 ht3 hc3)
    replace ht3 : Blk W3 (w.heap.size + 1) 60 #[.int .i64 op, .int .i64 v, .int .u8 0, .slice none 0 0] := ht3
    replace hk := hk.chg1 hc3 (by omega)
    replace hr := hr.chg1 hc3 (by omega)
    replace hC := hC.step hc3 (.inr (by omega))
    clear ht hc3
    have ht := ht3
    clear ht3
    refine (word_r g s2 ⟨#[32, 40]⟩ b2 _ hk).mono ?_
    rintro e W2 ⟨s3, b3, rfl, hk2, hc2, H3⟩
    clear hk
    have hk := hk2
    clear hk2
    replace hr := hr.chg1 hc2 (by omega)
    replace ht := ht.chg1 hc2 (by omega)
    replace hC := hC.step hc2 (.inl rfl)
    have z3 : Hid (s3.size ≤ s2.size) := by have := H3.len; rw [byt_len, byt_len] at this; exact this
    replace H3 := hide H3
    clear hc2
    obtain ⟨Wa, rfl⟩ : ∃ X : World, X = W2 := ⟨_, rfl⟩
    have la : w.heap.size + 1 < Wa.heap.size := ht.lt
    have q3 : Hid (s3.size < f ∧ s3.size ≤ 1000000) := ⟨by have := z1.out; have := z2.out; have := z3.out; have := HF.out; omega, by have := z1.out; have := z2.out; have := z3.out; have := HS.out; omega⟩
    go_wp2_with fail
    refine (HH.out g s3 b3 _ q3.out.1 q3.out.2 hk).mono ?_
    rintro e W2 ⟨⟨op1, n1, pc1, A1, k1, c1⟩, s4, b4, rfl, hk2, hc2, H4⟩
    clear hk
    have hk := hk2
    clear hk2
    replace hr := hr.chg1 hc2 (by omega)
    replace ht := ht.chg1 hc2 (by omega)
    replace hC := hC.step hc2 (.inl rfl)
    dsimp only
    have z4 : Hid (s4.size ≤ s3.size) := by have := H4.len; rw [byt_len, byt_len] at this; exact this
    replace H4 := hide H4
    obtain ⟨Wx, rfl⟩ : ∃ X : World, X = W2 := ⟨_, rfl⟩
    have lx : Wa.heap.size ≤ Wx.heap.size := hc2.size
    clear hc2
    have hb6 := (Below.refl Wx.heap.size Wx).alloc (Nat.le_refl _) (.cells #[.int .i64 op1, .int .i64 n1, .int .u8 pc1, .slice A1 k1 c1] 60)
    have hKa := (Keeps.refl Wa.heap.size Wx.heap.size Wx).below hb6 (Nat.le_refl _)
    have h6 := Blk.new Wx 60 #[.int .i64 op1, .int .i64 n1, .int .u8 pc1, .slice A1 k1 c1]
    replace hk := hk.alloc (.cells #[.int .i64 op1, .int .i64 n1, .int .u8 pc1, .slice A1 k1 c1] 60)
    replace hr := hr.alloc (.cells #[.int .i64 op1, .int .i64 n1, .int .u8 pc1, .slice A1 k1 c1] 60)
    replace ht := ht.alloc (.cells #[.int .i64 op1, .int .i64 n1, .int .u8 pc1, .slice A1 k1 c1] 60)
    replace hC := hC.alloc_ (.cells #[.int .i64 op1, .int .i64 n1, .int .u8 pc1, .slice A1 k1 c1] 60)
    clear hb6
    go_upto_region 8 with fail
    generalize Wx.alloc (.cells #[.int .i64 op1, .int .i64 n1, .int .u8 pc1, .slice A1 k1 c1] 60) = W at *
    go_wp2_with fail
    refine (word_r g s4 ⟨#[44, 32]⟩ b4 _ hk).mono ?_
    rintro e W2 ⟨s5, b5, rfl, hk2, hc2, H5⟩
    clear hk
    have hk := hk2
    clear hk2
    replace hr := hr.chg1 hc2 (by omega)
    replace ht := ht.chg1 hc2 (by omega)
    replace hC := hC.step hc2 (.inl rfl)
    replace h6 := h6.chg1 hc2 (by omega)
    replace hKa := hKa.chg1 hc2 (Nat.le_refl _) (.inl (by omega))
    have z5 : Hid (s5.size ≤ s4.size) := by have := H5.len; rw [byt_len, byt_len] at this; exact this
    replace H5 := hide H5
    clear hc2
    obtain ⟨Wb, rfl⟩ : ∃ X : World, X = W2 := ⟨_, rfl⟩
    have lb : Wx.heap.size < Wb.heap.size := h6.lt
    have q5 : Hid (s5.size < f ∧ s5.size ≤ 1000000) := ⟨by have := z4.out; have := z5.out; have := q3.out.1; omega, by have := z4.out; have := z5.out; have := q3.out.2; omega⟩
    go_wp2_with fail
    refine (HH.out g s5 b5 _ q5.out.1 q5.out.2 hk).mono ?_
    rintro e W2 ⟨⟨op2, n2, pc2, A2, k2, c2⟩, s6, b6, rfl, hk2, hc2, H6⟩
    clear hk
    have hk := hk2
    clear hk2
    replace hr := hr.chg1 hc2 (by omega)
    replace ht := ht.chg1 hc2 (by omega)
    replace hC := hC.step hc2 (.inl rfl)
    dsimp only
    replace h6 := h6.chg1 hc2 (by omega)
    replace hKa := hKa.chg1 hc2 (Nat.le_refl _) (.inl (by omega))
    have z6 : Hid (s6.size ≤ s5.size) := by have := H6.len; rw [byt_len, byt_len] at this; exact this
    replace H6 := hide H6
    obtain ⟨Wy, rfl⟩ : ∃ X : World, X = W2 := ⟨_, rfl⟩
    have ly : Wb.heap.size ≤ Wy.heap.size := hc2.size
    clear hc2
    have hb7 := (Below.refl Wy.heap.size Wy).alloc (Nat.le_refl _) (.cells #[.int .i64 op2, .int .i64 n2, .int .u8 pc2, .slice A2 k2 c2] 60)
    have hKb := (Keeps.refl Wb.heap.size Wy.heap.size Wy).below hb7 (Nat.le_refl _)
    replace hKa := hKa.below hb7 (Nat.le_refl _)
    have h7 := Blk.new Wy 60 #[.int .i64 op2, .int .i64 n2, .int .u8 pc2, .slice A2 k2 c2]
    replace h6 := h6.alloc (.cells #[.int .i64 op2, .int .i64 n2, .int .u8 pc2, .slice A2 k2 c2] 60)
    replace hk := hk.alloc (.cells #[.int .i64 op2, .int .i64 n2, .int .u8 pc2, .slice A2 k2 c2] 60)
    replace hr := hr.alloc (.cells #[.int .i64 op2, .int .i64 n2, .int .u8 pc2, .slice A2 k2 c2] 60)
    replace ht := ht.alloc (.cells #[.int .i64 op2, .int .i64 n2, .int .u8 pc2, .slice A2 k2 c2] 60)
    replace hC := hC.alloc_ (.cells #[.int .i64 op2, .int .i64 n2, .int .u8 pc2, .slice A2 k2 c2] 60)
    clear hb7
    go_upto_region 10 with fail
    generalize Wy.alloc (.cells #[.int .i64 op2, .int .i64 n2, .int .u8 pc2, .slice A2 k2 c2] 60) = W at *
    go_wp2_with fail
    refine (word_r g s6 ⟨#[41]⟩ b6 _ hk).mono ?_
    rintro e W2 ⟨s7, b7, rfl, hk2, hc2, H7⟩
    clear hk
    have hk := hk2
    clear hk2
    replace hr := hr.chg1 hc2 (by omega)
    replace ht := ht.chg1 hc2 (by omega)
    replace hC := hC.step hc2 (.inl rfl)
    replace h6 := h6.chg1 hc2 (by omega)
    replace h7 := h7.chg1 hc2 (by omega)
    replace hKa := hKa.chg1 hc2 (Nat.le_refl _) (.inl (by omega))
    replace hKb := hKb.chg1 hc2 (Nat.le_refl _) (.inl (by omega))
    replace H7 := hide H7
    clear hc2
    have l7 : Wy.heap.size < W2.heap.size := h7.lt
    have a0 := h6.cell_ 0 rfl
    have a1 := h6.cell_ 1 rfl
    have a2 := h6.cell_ 2 rfl
    have a3 := h6.cell_ 3 rfl
    have d0 := h7.cell_ 0 rfl
    have d1 := h7.cell_ 1 rfl
    have d2 := h7.cell_ 2 rfl
    have d3 := h7.cell_ 3 rfl
    go_upto_region 12 with (refine wpList_store_at rfl 58 _ _ rfl (.slice (some ⟨W2.heap.size, 0, none⟩) 2 2) (ht.alloc _) rfl rfl (by kernel_rfl) rfl (by simp) rfl ?_; intro W3 ht3 hc3)
    replace hr := (hr.alloc (.cells #[.int .i64 op1, .int .i64 n1, .int .u8 pc1, .slice A1 k1 c1, .int .i64 op2, .int .i64 n2, .int .u8 pc2, .slice A2 k2 c2] 60)).chg1 hc3 (by omega)
    replace hk := (hk.alloc (.cells #[.int .i64 op1, .int .i64 n1, .int .u8 pc1, .slice A1 k1 c1, .int .i64 op2, .int .i64 n2, .int .u8 pc2, .slice A2 k2 c2] 60)).chg1 hc3 (by omega)
    replace hC := (hC.alloc_ (.cells #[.int .i64 op1, .int .i64 n1, .int .u8 pc1, .slice A1 k1 c1, .int .i64 op2, .int .i64 n2, .int .u8 pc2, .slice A2 k2 c2] 60)).step hc3 (.inr (by omega))
    have hb8 := (Below.refl W2.heap.size W2).alloc (Nat.le_refl _) (.cells #[.int .i64 op1, .int .i64 n1, .int .u8 pc1, .slice A1 k1 c1, .int .i64 op2, .int .i64 n2, .int .u8 pc2, .slice A2 k2 c2] 60)
    replace hKa := (hKa.below hb8 (Nat.le_refl _)).chg1 hc3 (Nat.le_refl _) (.inl (by omega))
    replace hKb := (hKb.below hb8 (Nat.le_refl _)).chg1 hc3 (Nat.le_refl _) (.inl (by omega))
    have hP := (Blk.new W2 60 #[.int .i64 op1, .int .i64 n1, .int .u8 pc1, .slice A1 k1 c1, .int .i64 op2, .int .i64 n2, .int .u8 pc2, .slice A2 k2 c2]).chg1 hc3 (by omega)
    replace ht3 : Blk W3 (w.heap.size + 1) 60 #[.int .i64 op, .int .i64 v, .int .u8 0, .slice (some ⟨W2.heap.size, 0, none⟩) 2 2] := ht3
    clear a0 a1 a2 a3 d0 d1 d2 d3 ht h6 h7 hb8 hc3
    have t0 := ht3.cell_ 0 (v := .int .i64 op) rfl
    have t1 := ht3.cell_ 1 (v := .int .i64 v) rfl
    have t2 := ht3.cell_ 2 (v := .int .u8 0) rfl
    have t3 := ht3.cell_ 3 (v := .slice (some ⟨W2.heap.size, 0, none⟩) 2 2) rfl
    try dsimp only [Act.put]
    go_wp2_with (refine wpList_store_blk rfl 60 _ _ rfl #[.int .i64 op, .int .i64 v, .int .u8 0, .slice (some ⟨W2.heap.size, 0, none⟩) 2 2] hr rfl rfl (by kernel_rfl) rfl (by simp [Value.oneCell']) ?_; intro W4 hr4 hc4; have r0 := hr4.cell_ 0 rfl; have r1 := hr4.cell_ 1 rfl; have r2 := hr4.cell_ 2 rfl; have r3 := hr4.cell_ 3 rfl)
    replace hk := hk.chg1 hc4 (by omega)
    replace hP := hP.chg1 hc4 (by omega)
    replace hC := hC.step hc4 (.inr (Nat.le_refl _))
    replace hKa := hKa.chg1 hc4 (Nat.le_refl _) (.inl (by omega))
    replace hKb := hKb.chg1 hc4 (Nat.le_refl _) (.inl (by omega))
    refine bodyPost_ret (v := .agg #[.int .i64 op, .int .i64 v, .int .u8 0, .slice (some ⟨W2.heap.size, 0, none⟩) 2 2]) (by simp [results, Tryd.results96, go_sem, r0, r1, r2, r3]) rfl ⟨⟨op, v, 0, some ⟨W2.heap.size, 0, none⟩, 2, 2⟩, s7, b7, rfl, hk, chg_far hC, ?_⟩
    have J := saw_join (c := c) H1.out H2.out.step H3.out H4.out H5.out H6.out H7.out
    refine ⟨J.len, fun hb => ?_, J.no⟩
    obtain ⟨e, x', h1, ta, tb, rfl, qa, qb⟩ := J.ok hb
    refine ⟨e, _, h1, ?_⟩
    rw [HOP.out]
    exact TreeAt.two (by simpa [TV.enc] using hP) (by omega) (hKa.tree (Nat.le_refl _) (by omega) qa) (hKb.tree (Nat.le_refl _) (by omega) qb)
set_option maxRecDepth 100000 in
set_option maxHeartbeats 4000000 in
theorem cut_step (f : Nat) (H : SawnAt f) : CutAt (f + 1) := by
  intro g s bad w hf hs hk
  have hgl := hk.lt
  have HS := hide hs
  have HF := hide hf
  have HH := hide H
  clear hs hf H
  have hr := Blk.new w 60 #[.int .i64 0, .int .i64 0, .int .u8 0, .slice none 0 0]
  replace hk := hk.alloc (.cells #[.int .i64 0, .int .i64 0, .int .u8 0, .slice none 0 0] 60)
  have hC : ChgG g w _ := ChgG.alloc_ (Chg.refl _ w) (.cells #[.int .i64 0, .int .i64 0, .int .u8 0, .slice none 0 0] 60)
  go_enter Tryd.func74, Tryd.ntmps74
  go_upto_region 1 with fail
  generalize w.alloc (.cells #[.int .i64 0, .int .i64 0, .int .u8 0, .slice none 0 0] 60) = W at *
  have q0 := hk.cell_ 0 (v := .string s) rfl
  have q1 := hk.cell_ 1 (v := .bool bad) rfl
  cases bad with
  | true =>
    go_upto_region 3 with (refine wpList_store_at rfl 4 _ _ rfl (.bool true) hk rfl rfl (by kernel_rfl) rfl (by simp) rfl ?_; intro W2 hk2 hc2)
    replace hr := hr.chg1 hc2 (by omega)
    replace hC := hC.step hc2 (.inl rfl)
    clear q0 q1 hk hc2
    have hk := hk2
    clear hk2
    go_wp2_with (refine wpList_store_blk rfl 60 _ _ rfl #[.int .i64 0, .int .i64 0, .int .u8 0, .slice none 0 0] hr rfl rfl (by kernel_rfl) rfl (by simp [Value.oneCell']) ?_; intro W3 hr3 hc3; have r0 := hr3.cell_ 0 rfl; have r1 := hr3.cell_ 1 rfl; have r2 := hr3.cell_ 2 rfl; have r3 := hr3.cell_ 3 rfl)
    replace hk := hk.chg1 hc3 (by omega)
    refine bodyPost_ret (v := .agg #[.int .i64 0, .int .i64 0, .int .u8 0, .slice none 0 0]) (by simp [results, Tryd.results74, go_sem, r0, r1, r2, r3]) rfl ⟨⟨0, 0, 0, none, 0, 0⟩, _, _, rfl, hk, chg_far (hC.step hc3 (.inr (Nat.le_refl _))), ?_⟩
    exact ⟨Nat.le_refl _, fun h => (by cases h), fun _ => .inl rfl⟩
  | false =>
    by_cases h0 : s.size = 0
    · have f0 : s.toList.isEmpty = true := by rw [str_empty, decide_eq_true h0]
      have HN : Hid (cutT (f + 1) (byt s) = none) := by
        have : byt s = [] := List.eq_nil_of_length_eq_zero (by rw [byt_len]; exact h0)
        show _ = _
        rw [this, cutT_nil]
      clear h0
      go_upto_region 3 with (refine wpList_store_at rfl 4 _ _ rfl (.bool true) hk rfl rfl (by kernel_rfl) rfl (by simp) rfl ?_; intro W2 hk2 hc2)
      replace hr := hr.chg1 hc2 (by omega)
      replace hC := hC.step hc2 (.inl rfl)
      clear q0 q1 hk hc2
      have hk := hk2
      clear hk2
      go_wp2_with (refine wpList_store_blk rfl 60 _ _ rfl #[.int .i64 0, .int .i64 0, .int .u8 0, .slice none 0 0] hr rfl rfl (by kernel_rfl) rfl (by simp [Value.oneCell']) ?_; intro W3 hr3 hc3; have r0 := hr3.cell_ 0 rfl; have r1 := hr3.cell_ 1 rfl; have r2 := hr3.cell_ 2 rfl; have r3 := hr3.cell_ 3 rfl)
      replace hk := hk.chg1 hc3 (by omega)
      refine bodyPost_ret (v := .agg #[.int .i64 0, .int .i64 0, .int .u8 0, .slice none 0 0]) (by simp [results, Tryd.results74, go_sem, r0, r1, r2, r3]) rfl ⟨⟨0, 0, 0, none, 0, 0⟩, _, _, rfl, hk, chg_far (hC.step hc3 (.inr (Nat.le_refl _))), ?_⟩
      exact ⟨Nat.le_refl _, fun h => (by cases h), fun _ => .inr HN.out⟩
    · have f0 : s.toList.isEmpty = false := by rw [str_empty, decide_eq_false h0]
      obtain ⟨c, l, e1, e2, e3, e4⟩ := isCut_is s (by omega)
      have hix : ∀ w, (Instr.index 9 (.string s) (.int .i64 0)).run Tryd.prog w = .ok (.int .u8 (bat s 0)) w := ix_byte s 0 (by omega)
      obtain ⟨x, hx⟩ : ∃ x, bat s 0 = x := ⟨_, rfl⟩
      rw [hx] at hix e2
      obtain ⟨R, hR⟩ : ∃ R, s.extract 1 s.size = R := ⟨_, rfl⟩
      have z1 : (1 : Int) ≤ (s.size : Int) := by omega
      rw [hR] at e3
      have hRs : Hid (R.size + 1 = s.size) := by
        show _ = _
        have h1 := congrArg List.length e1
        rw [byt_len, List.length_cons, ← e3, byt_len] at h1
        omega
      obtain ⟨p1, hp1⟩ : ∃ b, begB s ⟨#[104, 32]⟩ = b := ⟨_, rfl⟩
      obtain ⟨p2, hp2⟩ : ∃ b, begB s ⟨#[118, 32]⟩ = b := ⟨_, rfl⟩
      rw [hp1, hp2] at e4
      have P1 := hide hp1
      have P2 := hide hp2
      have E1 := hide e1
      have E2 := hide e2
      have E3 := hide e3
      have E4 := hide e4
      clear e1 e2 e3 e4 hx hp1 hp2 h0
      have hp1 : ∀ w, Calls Tryd.prog 95 #[.string s, .string ⟨#[104, 32]⟩] w fun e w' => e = .returned (.bool p1) ∧ w = w' := fun w => by rw [← P1.out]; exact hp_any s _ w
      have hp2 : ∀ w, Calls Tryd.prog 95 #[.string s, .string ⟨#[118, 32]⟩] w fun e w' => e = .returned (.bool p2) ∧ w = w' := fun w => by rw [← P2.out]; exact hp_any s _ w
      have HP1 := hide hp1
      have HP2 := hide hp2
      have HLen : Hid ((byt R).length ≤ (byt s).length) := by show _ ≤ _; rw [byt_len, byt_len]; have := hRs.out; omega
      have HCut : Hid (∀ f, byt s = c :: byt R ∧ (isCut c (byt R) = true → cutT (f + 1) (byt s) = sawnT f c (byt R)) ∧ (isCut c (byt R) = false → cutT (f + 1) (byt s) = if c = 95 then some (.node 0 0 0 [], byt R) else if 97 ≤ c.toNat ∧ c.toNat ≤ 122 then some (.node 1 0 c.toNat [], byt R) else none)) := fun f => by
        have h := E1.out
        rw [← E3.out] at h
        exact ⟨h, fun hi => by rw [h, cutT_saw hi], fun hi => by rw [h, cutT_leaf hi]⟩
      clear hp1 hp2
      cases p1 with
      | true =>
        have HI : Hid (isCut c (byt R) = true) := by show _ = _; rw [E3.out, E4.out]; rfl
        go_wp2_with fail
        refine (HP1.out _).mono ?_
        rintro e w' ⟨rfl, rfl⟩
        go_upto_region 7 with (refine wpList_store_at rfl 9 _ _ rfl (.string R) hk rfl rfl (by kernel_rfl) rfl (by simp) rfl ?_; intro W2 hk2 hc2)
        replace hr := hr.chg1 hc2 (by omega)
        replace hC := hC.step hc2 (.inl rfl)
        clear q0 q1 hk hc2
        have hk := hk2
        clear hk2
        go_wp2_with fail
        refine (HH.out g R false c x _ E2.out (by have := hRs.out; have := HF.out; omega) (by have := hRs.out; have := HS.out; omega) hk).mono ?_
        rintro e W5 ⟨⟨op1, n1, pc1, A1, k1, c1⟩, s4, b4, rfl, hk2, hc2, H4⟩
        dsimp only
        have l5 : w.heap.size < W2.heap.size := hr.lt
        replace hr := hr.chg1 hc2 (by omega)
        replace hC := hC.step hc2 (.inl rfl)
        replace H4 := hide H4
        clear hk hc2
        have hk := hk2
        clear hk2
        go_wp2_with (refine wpList_store_blk rfl 60 _ _ rfl #[.int .i64 op1, .int .i64 n1, .int .u8 pc1, .slice A1 k1 c1] hr rfl rfl (by kernel_rfl) rfl (by simp [Value.oneCell']) ?_; intro W3 hr3 hc3; have r0 := hr3.cell_ 0 rfl; have r1 := hr3.cell_ 1 rfl; have r2 := hr3.cell_ 2 rfl; have r3 := hr3.cell_ 3 rfl)
        replace hk := hk.chg1 hc3 (by omega)
        have hKa := (Keeps.refl W2.heap.size W5.heap.size W5).chg1 hc3 (Nat.le_refl _) (.inl l5)
        refine bodyPost_ret (v := .agg #[.int .i64 op1, .int .i64 n1, .int .u8 pc1, .slice A1 k1 c1]) (by simp [results, Tryd.results74, go_sem, r0, r1, r2, r3]) rfl ⟨⟨op1, n1, pc1, A1, k1, c1⟩, _, _, rfl, hk, chg_far (hC.step hc3 (.inr (Nat.le_refl _))), ?_⟩
        have J := H4.out
        refine ⟨Nat.le_trans J.len HLen.out, fun hb => ?_, fun hb => ?_⟩
        · obtain ⟨e, t, h1, h2⟩ := J.ok hb
          exact ⟨rfl, t, by rw [(HCut.out f).2.1 HI.out]; exact h1, hKa.tree (Nat.le_refl _) (by omega) h2⟩
        · exact (J.no hb).elim (fun h => (by cases h)) fun h => .inr (by rw [(HCut.out f).2.1 HI.out]; exact h)
      | false =>
        cases p2 with
        | true =>
          have HI : Hid (isCut c (byt R) = true) := by show _ = _; rw [E3.out, E4.out]; rfl
          go_wp2_with fail
          refine (HP1.out _).mono ?_
          rintro e w' ⟨rfl, rfl⟩
          go_wp2_with fail
          refine (HP2.out _).mono ?_
          rintro e w' ⟨rfl, rfl⟩
          go_upto_region 7 with (refine wpList_store_at rfl 9 _ _ rfl (.string R) hk rfl rfl (by kernel_rfl) rfl (by simp) rfl ?_; intro W2 hk2 hc2)
          replace hr := hr.chg1 hc2 (by omega)
          replace hC := hC.step hc2 (.inl rfl)
          clear q0 q1 hk hc2
          have hk := hk2
          clear hk2
          go_wp2_with fail
          refine (HH.out g R false c x _ E2.out (by have := hRs.out; have := HF.out; omega) (by have := hRs.out; have := HS.out; omega) hk).mono ?_
          rintro e W5 ⟨⟨op1, n1, pc1, A1, k1, c1⟩, s4, b4, rfl, hk2, hc2, H4⟩
          dsimp only
          have l5 : w.heap.size < W2.heap.size := hr.lt
          replace hr := hr.chg1 hc2 (by omega)
          replace hC := hC.step hc2 (.inl rfl)
          replace H4 := hide H4
          clear hk hc2
          have hk := hk2
          clear hk2
          go_wp2_with (refine wpList_store_blk rfl 60 _ _ rfl #[.int .i64 op1, .int .i64 n1, .int .u8 pc1, .slice A1 k1 c1] hr rfl rfl (by kernel_rfl) rfl (by simp [Value.oneCell']) ?_; intro W3 hr3 hc3; have r0 := hr3.cell_ 0 rfl; have r1 := hr3.cell_ 1 rfl; have r2 := hr3.cell_ 2 rfl; have r3 := hr3.cell_ 3 rfl)
          replace hk := hk.chg1 hc3 (by omega)
          have hKa := (Keeps.refl W2.heap.size W5.heap.size W5).chg1 hc3 (Nat.le_refl _) (.inl l5)
          refine bodyPost_ret (v := .agg #[.int .i64 op1, .int .i64 n1, .int .u8 pc1, .slice A1 k1 c1]) (by simp [results, Tryd.results74, go_sem, r0, r1, r2, r3]) rfl ⟨⟨op1, n1, pc1, A1, k1, c1⟩, _, _, rfl, hk, chg_far (hC.step hc3 (.inr (Nat.le_refl _))), ?_⟩
          have J := H4.out
          refine ⟨Nat.le_trans J.len HLen.out, fun hb => ?_, fun hb => ?_⟩
          · obtain ⟨e, t, h1, h2⟩ := J.ok hb
            exact ⟨rfl, t, by rw [(HCut.out f).2.1 HI.out]; exact h1, hKa.tree (Nat.le_refl _) (by omega) h2⟩
          · exact (J.no hb).elim (fun h => (by cases h)) fun h => .inr (by rw [(HCut.out f).2.1 HI.out]; exact h)
        | false =>
          have HI : Hid (isCut c (byt R) = false) := by show _ = _; rw [E3.out, E4.out]; rfl
          have HL := hide ((HCut.out f).2.2 HI.out)
          go_wp2_with fail
          refine (HP1.out _).mono ?_
          rintro e w' ⟨rfl, rfl⟩
          go_wp2_with fail
          refine (HP2.out _).mono ?_
          rintro e w' ⟨rfl, rfl⟩
          by_cases x95 : x = 95
          · have f1 : ((x : Int) == 95) = true := by simp [x95]
            have HR : Hid (cutT (f + 1) (byt s) = some (.node 0 0 0 [], byt R)) := by
              show _ = _
              rw [HL.out, if_pos (UInt8.toNat_inj.1 (by rw [E2.out, x95]; rfl))]
            clear x95
            go_upto_region 7 with (refine wpList_store_at rfl 9 _ _ rfl (.string R) hk rfl rfl (by kernel_rfl) rfl (by simp) rfl ?_; intro W2 hk2 hc2)
            replace hr := hr.chg1 hc2 (by omega)
            replace hC := hC.step hc2 (.inl rfl)
            clear q0 q1 hk hc2
            have hk := hk2
            clear hk2
            go_wp2_with (refine wpList_store_blk rfl 60 _ _ rfl #[.int .i64 0, .int .i64 0, .int .u8 0, .slice none 0 0] hr rfl rfl (by kernel_rfl) rfl (by simp [Value.oneCell']) ?_; intro W3 hr3 hc3; have r0 := hr3.cell_ 0 rfl; have r1 := hr3.cell_ 1 rfl; have r2 := hr3.cell_ 2 rfl; have r3 := hr3.cell_ 3 rfl)
            replace hk := hk.chg1 hc3 (by omega)
            refine bodyPost_ret (v := .agg #[.int .i64 0, .int .i64 0, .int .u8 0, .slice none 0 0]) (by simp [results, Tryd.results74, go_sem, r0, r1, r2, r3]) rfl ⟨⟨0, 0, 0, none, 0, 0⟩, _, _, rfl, hk, chg_far (hC.step hc3 (.inr (Nat.le_refl _))), ?_⟩
            exact ⟨HLen.out, fun _ => ⟨rfl, _, HR.out, TreeAt.leaf 0 0 0⟩, fun h => (by cases h)⟩
          · have f1 : ((x : Int) == 95) = false := by simp; omega
            have HC95 : Hid (¬ c = 95) := fun h => x95 (by rw [← E2.out, h]; rfl)
            clear x95
            by_cases x97 : 97 ≤ x
            · have f2 : (97 : Int) ≤ (x : Int) := by omega
              by_cases x122 : x ≤ 122
              · have f3 : (x : Int) ≤ 122 := by omega
                have HR : Hid (cutT (f + 1) (byt s) = some (.node 1 0 x [], byt R)) := by
                  show _ = _
                  rw [HL.out, if_neg HC95.out, E2.out, if_pos ⟨x97, x122⟩]
                clear x97 x122
                go_upto_region 7 with (refine wpList_store_at rfl 9 _ _ rfl (.string R) hk rfl rfl (by kernel_rfl) rfl (by simp) rfl ?_; intro W2 hk2 hc2)
                replace hr := hr.chg1 hc2 (by omega)
                replace hC := hC.step hc2 (.inl rfl)
                clear q0 q1 hk hc2
                have hk := hk2
                clear hk2
                go_wp2_with (refine wpList_store_blk rfl 60 _ _ rfl #[.int .i64 1, .int .i64 0, .int .u8 x, .slice none 0 0] hr rfl rfl (by kernel_rfl) rfl (by simp [Value.oneCell']) ?_; intro W3 hr3 hc3; have r0 := hr3.cell_ 0 rfl; have r1 := hr3.cell_ 1 rfl; have r2 := hr3.cell_ 2 rfl; have r3 := hr3.cell_ 3 rfl)
                replace hk := hk.chg1 hc3 (by omega)
                refine bodyPost_ret (v := .agg #[.int .i64 1, .int .i64 0, .int .u8 x, .slice none 0 0]) (by simp [results, Tryd.results74, go_sem, r0, r1, r2, r3]) rfl ⟨⟨1, 0, x, none, 0, 0⟩, _, _, rfl, hk, chg_far (hC.step hc3 (.inr (Nat.le_refl _))), ?_⟩
                exact ⟨HLen.out, fun _ => ⟨rfl, _, HR.out, TreeAt.leaf 1 0 x⟩, fun h => (by cases h)⟩
              · have f3 : ¬ (x : Int) ≤ 122 := by omega
                have f3d : decide ((x : Int) ≤ 122) = false := decide_eq_false f3
                have HR : Hid (cutT (f + 1) (byt s) = none) := by
                  show _ = _
                  rw [HL.out, if_neg HC95.out, E2.out, if_neg (by omega)]
                clear x97 x122
                go_upto_region 7 with (refine wpList_store_at rfl 9 _ _ rfl (.string R) hk rfl rfl (by kernel_rfl) rfl (by simp) rfl ?_; intro W2 hk2 hc2)
                replace hr := hr.chg1 hc2 (by omega)
                replace hC := hC.step hc2 (.inl rfl)
                clear q0 q1 hk hc2
                have hk := hk2
                clear hk2
                go_upto_region 14 with (refine wpList_store_at rfl 4 _ _ rfl (.bool true) hk rfl rfl (by kernel_rfl) rfl (by simp) rfl ?_; intro W2 hk2 hc2)
                replace hr := hr.chg1 hc2 (by omega)
                replace hC := hC.step hc2 (.inl rfl)
                clear hk hc2
                have hk := hk2
                clear hk2
                go_wp2_with (refine wpList_store_blk rfl 60 _ _ rfl #[.int .i64 0, .int .i64 0, .int .u8 0, .slice none 0 0] hr rfl rfl (by kernel_rfl) rfl (by simp [Value.oneCell']) ?_; intro W3 hr3 hc3; have r0 := hr3.cell_ 0 rfl; have r1 := hr3.cell_ 1 rfl; have r2 := hr3.cell_ 2 rfl; have r3 := hr3.cell_ 3 rfl)
                replace hk := hk.chg1 hc3 (by omega)
                refine bodyPost_ret (v := .agg #[.int .i64 0, .int .i64 0, .int .u8 0, .slice none 0 0]) (by simp [results, Tryd.results74, go_sem, r0, r1, r2, r3]) rfl ⟨⟨0, 0, 0, none, 0, 0⟩, _, _, rfl, hk, chg_far (hC.step hc3 (.inr (Nat.le_refl _))), ?_⟩
                exact ⟨HLen.out, fun h => (by cases h), fun _ => .inr HR.out⟩
            · have f2 : ¬ (97 : Int) ≤ (x : Int) := by omega
              have f2d : decide ((97 : Int) ≤ (x : Int)) = false := decide_eq_false f2
              have HR : Hid (cutT (f + 1) (byt s) = none) := by
                show _ = _
                rw [HL.out, if_neg HC95.out, E2.out, if_neg (by omega)]
              clear x97
              go_upto_region 7 with (refine wpList_store_at rfl 9 _ _ rfl (.string R) hk rfl rfl (by kernel_rfl) rfl (by simp) rfl ?_; intro W2 hk2 hc2)
              replace hr := hr.chg1 hc2 (by omega)
              replace hC := hC.step hc2 (.inl rfl)
              clear q0 q1 hk hc2
              have hk := hk2
              clear hk2
              go_upto_region 14 with (refine wpList_store_at rfl 4 _ _ rfl (.bool true) hk rfl rfl (by kernel_rfl) rfl (by simp) rfl ?_; intro W2 hk2 hc2)
              replace hr := hr.chg1 hc2 (by omega)
              replace hC := hC.step hc2 (.inl rfl)
              clear hk hc2
              have hk := hk2
              clear hk2
              go_wp2_with (refine wpList_store_blk rfl 60 _ _ rfl #[.int .i64 0, .int .i64 0, .int .u8 0, .slice none 0 0] hr rfl rfl (by kernel_rfl) rfl (by simp [Value.oneCell']) ?_; intro W3 hr3 hc3; have r0 := hr3.cell_ 0 rfl; have r1 := hr3.cell_ 1 rfl; have r2 := hr3.cell_ 2 rfl; have r3 := hr3.cell_ 3 rfl)
              replace hk := hk.chg1 hc3 (by omega)
              refine bodyPost_ret (v := .agg #[.int .i64 0, .int .i64 0, .int .u8 0, .slice none 0 0]) (by simp [results, Tryd.results74, go_sem, r0, r1, r2, r3]) rfl ⟨⟨0, 0, 0, none, 0, 0⟩, _, _, rfl, hk, chg_far (hC.step hc3 (.inr (Nat.le_refl _))), ?_⟩
              exact ⟨HLen.out, fun h => (by cases h), fun _ => .inr HR.out⟩
/-- the parser's cut, however long the text is -/
theorem cut_all : ∀ f, CutAt f
  | 0 => fun g s bad w h => absurd h (by omega)
  | f + 1 => cut_step f (sawn_step f (cut_all f))
end Go.Proofs.YtecaaimaeaocbaaDoor
