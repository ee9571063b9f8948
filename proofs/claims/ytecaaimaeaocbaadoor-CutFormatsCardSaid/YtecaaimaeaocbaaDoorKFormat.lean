/- Format of both texts, and Same. -/
import Derived.Test.YtecaaimaeaocbaaDoorKRForm
namespace Go.Proofs.YtecaaimaeaocbaaDoor
open Go Go.RowKit
def fmtE (t : Tree) : Int := if shT 20 t then (if rtT 20 t then (if 2000 < (textT t).length then 43 else 0) else 4) else 43
def fmtS (t : Tree) : ByteArray := if fmtE t = 0 then txS t else ⟨#[]⟩
def FmtPost (t : Tree) (w : World) (e : Ending) (w' : World) : Prop := e = .returned (.tuple #[.string (fmtS t), .int .i64 (fmtE t)]) ∧ Below w.heap.size w w'
theorem fmt_deep {t : Tree} (h : shT 20 t = false) : fmtE t = 43 ∧ fmtS t = ⟨#[]⟩ := by
  have e : fmtE t = 43 := by unfold fmtE; rw [h]; rfl
  exact ⟨e, by unfold fmtS; rw [e]; rfl⟩
theorem fmt_form {t : Tree} (h : shT 20 t = true) (h2 : rtT 20 t = false) : fmtE t = 4 ∧ fmtS t = ⟨#[]⟩ := by
  have e : fmtE t = 4 := by unfold fmtE; rw [h, h2]; rfl
  exact ⟨e, by unfold fmtS; rw [e]; rfl⟩
theorem fmt_long {t : Tree} (h : shT 20 t = true) (h2 : rtT 20 t = true) (h3 : 2000 < (textT t).length) : fmtE t = 43 ∧ fmtS t = ⟨#[]⟩ := by
  have e : fmtE t = 43 := by unfold fmtE; rw [h, h2]; simp [h3]
  exact ⟨e, by unfold fmtS; rw [e]; rfl⟩
theorem fmt_ok {t : Tree} (h : shT 20 t = true) (h2 : rtT 20 t = true) (h3 : ¬ 2000 < (textT t).length) : fmtE t = 0 ∧ fmtS t = txS t := by
  have e : fmtE t = 0 := by unfold fmtE; rw [h, h2]; simp [h3]
  exact ⟨e, by unfold fmtS; rw [e]; rfl⟩
theorem shal_is (l : Nat) (hl : l ≤ 1000) (t : Tree) (op n pc : Int) (A : Option Addr) (k c L f : Nat) (w : World) (hT : TreeAt w L w.heap.size f t ⟨op, n, pc, A, k, c⟩) {v : Bool} (h : shT l t = v) :
    Calls Tryd.prog 77 #[.agg #[.int .i64 op, .int .i64 n, .int .u8 pc, .slice A k c], .int .i64 l] w fun e w' => e = .returned (.bool v) ∧ Below w.heap.size w w' := by
  subst h; exact shal_all l hl t op n pc A k c L f w hT
theorem rdeep_is (l : Nat) (hl : l ≤ 1000) (t : Tree) (op n pc : Int) (A : Option Addr) (k c L f : Nat) (w : World) (hT : TreeAt w L w.heap.size f t ⟨op, n, pc, A, k, c⟩) {v : Bool} (h : (!shT l t) = v) :
    Calls Tryd.prog 81 #[.agg #[.int .i64 op, .int .i64 n, .int .u8 pc, .slice A k c], .int .i64 l] w fun e w' => e = .returned (.bool v) ∧ Below w.heap.size w w' := by
  subst h; exact rdeep_all l hl t op n pc A k c L f w hT
theorem rright_is (t : Tree) (op n pc : Int) (A : Option Addr) (k c L f : Nat) (w : World) (hT : TreeAt w L w.heap.size f t ⟨op, n, pc, A, k, c⟩) {v : Bool} (h : rtT f t = v) :
    Calls Tryd.prog 82 #[.agg #[.int .i64 op, .int .i64 n, .int .u8 pc, .slice A k c]] w fun e w' => e = .returned (.bool v) ∧ Below w.heap.size w w' := by
  subst h; exact rright_all f t op n pc A k c L w hT
set_option maxRecDepth 100000 in
set_option maxHeartbeats 4000000 in
theorem rformat_any (t : Tree) (op n pc : Int) (A : Option Addr) (k c L f : Nat) (w : World) (hT : TreeAt w L w.heap.size f t ⟨op, n, pc, A, k, c⟩) :
    Calls Tryd.prog 43 #[.agg #[.int .i64 op, .int .i64 n, .int .u8 pc, .slice A k c]] w fun e w' => FmtPost t w e w' := by
  have hk := Blk.new w 60 #[.int .i64 op, .int .i64 n, .int .u8 pc, .slice A k c]
  have hB := (Below.refl w.heap.size w).alloc (Nat.le_refl _) (.cells #[.int .i64 op, .int .i64 n, .int .u8 pc, .slice A k c] 60)
  go_enter Tryd.func43, Tryd.ntmps43
  go_upto_region 1 with fail
  generalize w.alloc (.cells #[.int .i64 op, .int .i64 n, .int .u8 pc, .slice A k c] 60) = W at *
  have q0 := hk.cell_ 0 rfl
  have q1 := hk.cell_ 1 rfl
  have q2 := hk.cell_ 2 rfl
  have q3 := hk.cell_ 3 rfl
  have hT1 := hT.on hB
  cases hs : shT 20 t with
  | false =>
    have HE := hide (fmt_deep hs)
    go_wp2_with fail
    refine (rdeep_is 20 (by omega) t op n pc A k c L f _ hT1 (v := true) (by rw [hs]; rfl)).mono ?_
    rintro e W ⟨rfl, hb⟩
    clear q0 q1 q2 q3
    replace hk := hk.below hb hk.lt
    replace hB := hB.trans (hb.mono hB.size)
    clear hb
    have q0 := hk.cell_ 0 rfl
    have q1 := hk.cell_ 1 rfl
    have q2 := hk.cell_ 2 rfl
    have q3 := hk.cell_ 3 rfl
    clear hs hT1
    go_wp2_with fail
    go_ret2
    exact ⟨by rw [HE.out.1, HE.out.2]; rfl, hB⟩
  | true =>
    have HSH := hide hs
    go_wp2_with fail
    refine (rdeep_is 20 (by omega) t op n pc A k c L f _ hT1 (v := false) (by rw [HSH.out]; rfl)).mono ?_
    rintro e W ⟨rfl, hb⟩
    clear q0 q1 q2 q3
    replace hk := hk.below hb hk.lt
    replace hT1 := TreeAt.on hT1 hb
    replace hB := hB.trans (hb.mono hB.size)
    clear hb
    have q0 := hk.cell_ 0 rfl
    have q1 := hk.cell_ 1 rfl
    have q2 := hk.cell_ 2 rfl
    have q3 := hk.cell_ 3 rfl
    clear hs
    have hT2 := hT1.cut_ HSH.out
    cases hr : rtT 20 t with
    | false =>
      have HE := hide (fmt_form HSH.out hr)
      go_wp2_with fail
      refine (rright_is t op n pc A k c L 20 _ hT2 hr).mono ?_
      rintro e W ⟨rfl, hb⟩
      clear q0 q1 q2 q3
      replace hk := hk.below hb hk.lt
      replace hT1 := TreeAt.on hT1 hb
      replace hT2 := TreeAt.on hT2 hb
      replace hB := hB.trans (hb.mono hB.size)
      clear hb
      have q0 := hk.cell_ 0 rfl
      have q1 := hk.cell_ 1 rfl
      have q2 := hk.cell_ 2 rfl
      have q3 := hk.cell_ 3 rfl
      clear hr hT1 hT2
      go_wp2_with fail
      go_ret2
      exact ⟨by rw [HE.out.1, HE.out.2]; rfl, hB⟩
    | true =>
      have HR := hide hr
      go_wp2_with fail
      refine (rright_is t op n pc A k c L 20 _ hT2 hr).mono ?_
      rintro e W ⟨rfl, hb⟩
      clear q0 q1 q2 q3
      replace hk := hk.below hb hk.lt
      replace hT1 := TreeAt.on hT1 hb
      replace hT2 := TreeAt.on hT2 hb
      replace hB := hB.trans (hb.mono hB.size)
      clear hb
      have q0 := hk.cell_ 0 rfl
      have q1 := hk.cell_ 1 rfl
      have q2 := hk.cell_ 2 rfl
      have q3 := hk.cell_ 3 rfl
      clear hr
      have HRT := hide (rt_right HR.out)
      have HHT := hide ((sh_ht HRT.out (f := 20)).1 HSH.out)
      obtain ⟨S, hS⟩ : ∃ S, txS t = S := ⟨_, rfl⟩
      have HS := hide hS
      have hsz : S.size = (textT t).length := by rw [← hS, ← byt_len, byt_txS]
      clear hS
      go_wp2_with fail
      refine (rtext_all 20 t op n pc A k c L _ HRT.out HHT.out hT2 S HS.out).mono ?_
      rintro e W ⟨rfl, hb⟩
      clear q0 q1 q2 q3
      replace hk := hk.below hb hk.lt
      replace hT1 := TreeAt.on hT1 hb
      replace hT2 := TreeAt.on hT2 hb
      replace hB := hB.trans (hb.mono hB.size)
      clear hb
      have q0 := hk.cell_ 0 rfl
      have q1 := hk.cell_ 1 rfl
      have q2 := hk.cell_ 2 rfl
      have q3 := hk.cell_ 3 rfl
      clear hT1 hT2
      by_cases hl : 2000 < S.size
      · have f1 : (2000 : Int) < (S.size : Int) := by omega
        have HE := hide (fmt_long HSH.out HR.out (by rw [← hsz]; exact hl))
        clear hl hsz
        go_wp2_with fail
        go_ret2
        exact ⟨by rw [HE.out.1, HE.out.2]; rfl, hB⟩
      · have f1 : ¬ (2000 : Int) < (S.size : Int) := by omega
        have HE := hide (fmt_ok HSH.out HR.out (by rw [← hsz]; exact hl))
        clear hl hsz
        go_wp2_with fail
        go_ret2
        exact ⟨by rw [HE.out.1, HE.out.2, HS.out]; rfl, hB⟩
theorem BIs.new (w : World) (B : Nat) (hB : B ≤ w.heap.size) : BIs B w.heap.size [] (w.alloc (.cells #[.pointer none, .slice none 0 0] 114)) :=
  .inl ⟨hB, .slice none 0 0, Blk.new w 114 #[.pointer none, .slice none 0 0], ⟨by simp [Lib.byteCells], .inl ⟨rfl, rfl⟩⟩, by simp [Value.ownBlock]⟩
theorem blen_any (B b : Nat) (bs : Bs) (w : World) (h : BIs B b bs w) : Calls Tryd.prog 79 #[.pointer (some ⟨b, 0, none⟩)] w fun e w' => e = .returned (.int .i64 bs.length) ∧ w = w' := by
  refine (Any.Builder_Len_f lays170 B b _ w h).mono ?_
  rintro e w' ⟨rfl, rfl⟩
  exact ⟨by rw [Lib.byteCells_length], rfl⟩
theorem bstr_any (B b : Nat) (bs : Bs) (w : World) (h : BIs B b bs w) (h0 : bs ≠ []) : Calls Tryd.prog 80 #[.pointer (some ⟨b, 0, none⟩)] w fun e w' => e = .returned (.string ⟨bs.toArray⟩) ∧ Below B w w' := by
  refine (Any.Builder_String_f lays169 libExtra B b bs w h h0).mono ?_
  rintro e w' ⟨rfl, _, h2⟩
  exact ⟨rfl, h2⟩
set_option maxRecDepth 100000 in
set_option maxHeartbeats 4000000 in
theorem format_any (t : Tree) (op n pc : Int) (A : Option Addr) (k c f : Nat) (w : World) (hT : TreeAt w 0 w.heap.size f t ⟨op, n, pc, A, k, c⟩) (htab : TabB w.heap.size w) :
    Calls Tryd.prog 41 #[.agg #[.int .i64 op, .int .i64 n, .int .u8 pc, .slice A k c]] w fun e w' => FmtPost t w e w' := by
  have hk := Blk.new w 60 #[.int .i64 op, .int .i64 n, .int .u8 pc, .slice A k c]
  have hB := (Below.refl w.heap.size w).alloc (Nat.le_refl _) (.cells #[.int .i64 op, .int .i64 n, .int .u8 pc, .slice A k c] 60)
  go_enter Tryd.func41, Tryd.ntmps41
  go_upto_region 1 with fail
  generalize w.alloc (.cells #[.int .i64 op, .int .i64 n, .int .u8 pc, .slice A k c] 60) = W at *
  have q0 := hk.cell_ 0 rfl
  have q1 := hk.cell_ 1 rfl
  have q2 := hk.cell_ 2 rfl
  have q3 := hk.cell_ 3 rfl
  have hT1 := hT.on hB
  cases hs : shT 20 t with
  | false =>
    have HE := hide (fmt_deep hs)
    go_wp2_with fail
    refine (shal_is 20 (by omega) t op n pc A k c 0 f _ hT1 hs).mono ?_
    rintro e W ⟨rfl, hb⟩
    clear q0 q1 q2 q3
    replace hk := hk.below hb hk.lt
    replace hB := hB.trans (hb.mono hB.size)
    clear hb
    have q0 := hk.cell_ 0 rfl
    have q1 := hk.cell_ 1 rfl
    have q2 := hk.cell_ 2 rfl
    have q3 := hk.cell_ 3 rfl
    clear hs hT1
    go_wp2_with fail
    go_ret2
    exact ⟨by rw [HE.out.1, HE.out.2]; rfl, hB⟩
  | true =>
    have HSH := hide hs
    go_wp2_with fail
    refine (shal_is 20 (by omega) t op n pc A k c 0 f _ hT1 hs).mono ?_
    rintro e W ⟨rfl, hb⟩
    clear q0 q1 q2 q3
    replace hk := hk.below hb hk.lt
    replace hB := hB.trans (hb.mono hB.size)
    clear hb
    have q0 := hk.cell_ 0 rfl
    have q1 := hk.cell_ 1 rfl
    have q2 := hk.cell_ 2 rfl
    have q3 := hk.cell_ 3 rfl
    clear hs hT1
    have hT2 := (hT.keep (fun p _ hp => hB.cell hp) (Nat.le_refl _) (Nat.le_refl _)).cut_ HSH.out
    have hTab := htab.on hB
    have hN := BIs.new W w.heap.size hB.size
    have hb0 := (Below.refl W.heap.size W).alloc (Nat.le_refl _) (.cells #[.pointer none, .slice none 0 0] 114)
    have lW := hk.lt
    replace hk := hk.below hb0 hk.lt
    replace hT2 := hT2.belowBB (hb0.mono hB.size)
    replace hTab := hTab.on (hb0.mono hB.size)
    replace hB := hB.trans (hb0.mono hB.size)
    obtain ⟨b, hbw⟩ : ∃ b, W.heap.size = b := ⟨_, rfl⟩
    rw [hbw] at hN lW hb0
    have lb : b < (W.alloc (.cells #[.pointer none, .slice none 0 0] 114)).heap.size := by rw [← hbw]; simp
    clear hb0
    clear q0 q1 q2 q3
    go_upto_region 4 with fail
    generalize W.alloc (.cells #[.pointer none, .slice none 0 0] 114) = W2 at *
    clear hbw
    have u0 := hk.cell_ 0 (v := .int .i64 op) rfl
    have u1 := hk.cell_ 1 (v := .int .i64 n) rfl
    have u2 := hk.cell_ 2 (v := .int .u8 pc) rfl
    have u3 := hk.cell_ 3 (v := .slice A k c) rfl
    obtain ⟨v, hv⟩ : ∃ v, rtT 20 t = v := ⟨_, rfl⟩
    have HV := hide hv
    clear hv
    go_wp2_with fail
    refine (write_all 20 (Nat.le_refl _) t op n pc A k c w.heap.size b [] W2 hT2 hN hB.size hTab (by simp)).mono ?_
    rintro e W3 ⟨bs, rfl, hb2, hbl, _, _, hcs⟩
    rw [HV.out] at hcs ⊢
    replace hB := hB.trans hbl
    have HCS := hide hcs
    clear hk hT2 hTab hN hbl hcs u0 u1 u2 u3
    cases v with
    | false =>
      have HE := hide (fmt_form HSH.out HV.out)
      go_wp2_with fail
      go_ret2
      exact ⟨by rw [HE.out.1, HE.out.2]; rfl, hB⟩
    | true =>
      have hbs : bs = textT t := HCS.out rfl
      subst hbs
      have HRT := hide (rt_right HV.out)
      obtain ⟨m, hm⟩ : ∃ m, (textT t).length = m := ⟨_, rfl⟩
      have HM := hide hm
      have hne : Hid (textT t ≠ []) := fun h => by
        have := ht_text HRT.out
        have := htT_pos t
        rw [h] at *
        simp at *
        omega
      go_wp2_with fail
      refine (blen_any w.heap.size b _ W3 hb2).mono ?_
      rintro e W4 ⟨rfl, rfl⟩
      rw [hm]
      clear hm
      by_cases hl : 2000 < m
      · have f1 : (2000 : Int) < (m : Int) := by omega
        have HE := hide (fmt_long HSH.out HV.out (by rw [HM.out]; exact hl))
        clear hl
        go_wp2_with fail
        go_ret2
        exact ⟨by rw [HE.out.1, HE.out.2]; rfl, hB⟩
      · have f1 : ¬ (2000 : Int) < (m : Int) := by omega
        have HE := hide (fmt_ok HSH.out HV.out (by rw [HM.out]; exact hl))
        clear hl
        obtain ⟨S, hS⟩ : ∃ S : ByteArray, (⟨(textT t).toArray⟩ : ByteArray) = S := ⟨_, rfl⟩
        have HS : Hid (txS t = S) := hS
        go_wp2_with fail
        refine (bstr_any w.heap.size b _ W3 hb2 hne.out).mono ?_
        rintro e W4 ⟨rfl, hbl⟩
        rw [hS]
        replace hB := hB.trans hbl
        clear hb2 hbl hS
        go_wp2_with fail
        go_ret2
        exact ⟨by rw [HE.out.1, HE.out.2, HS.out]; rfl, hB⟩
/-- two places of one tree are the same -/
def SameAt (f : Nat) : Prop := ∀ (t : Tree) (o1 n1 p1 : Int) (A1 : Option Addr) (k1 c1 : Nat) (o2 n2 p2 : Int) (A2 : Option Addr) (k2 c2 : Nat) (w : World), TreeAt w 0 w.heap.size f t ⟨o1, n1, p1, A1, k1, c1⟩ → TreeAt w 0 w.heap.size f t ⟨o2, n2, p2, A2, k2, c2⟩ →
  Calls Tryd.prog 40 #[.agg #[.int .i64 o1, .int .i64 n1, .int .u8 p1, .slice A1 k1 c1], .agg #[.int .i64 o2, .int .i64 n2, .int .u8 p2, .slice A2 k2 c2]] w fun e w' => e = .returned (.bool true) ∧ Below w.heap.size w w'
set_option maxRecDepth 100000 in
set_option maxHeartbeats 4000000 in
theorem same_step (f : Nat) (H : SameAt f) : SameAt (f + 1) := by
  intro t o1 n1 p1 A1 k1 c1 o2 n2 p2 A2 k2 c2 w hT hU
  obtain ⟨a1, a2, a3, a4, a5⟩ := hT.head
  obtain ⟨b1, b2, b3, b4, -⟩ := hU.head
  dsimp only at a1 a2 a3 a4 b1 b2 b3 b4
  rw [← a1] at b1
  rw [← a2] at b2
  rw [← a3] at b3
  subst a4 b4 b1 b2 b3
  clear a1 a2 a3
  have HH := hide H
  clear H
  have hk := (Blk.new w 60 #[.int .i64 o2, .int .i64 n2, .int .u8 p2, .slice A1 t.ts.length c1]).alloc (.cells #[.int .i64 o2, .int .i64 n2, .int .u8 p2, .slice A2 t.ts.length c2] 60)
  have hm := Blk.new (w.alloc (.cells #[.int .i64 o2, .int .i64 n2, .int .u8 p2, .slice A1 t.ts.length c1] 60)) 60 #[.int .i64 o2, .int .i64 n2, .int .u8 p2, .slice A2 t.ts.length c2]
  have hB := ((Below.refl w.heap.size w).alloc (Nat.le_refl _) (.cells #[.int .i64 o2, .int .i64 n2, .int .u8 p2, .slice A1 t.ts.length c1] 60)).alloc (by simp) (.cells #[.int .i64 o2, .int .i64 n2, .int .u8 p2, .slice A2 t.ts.length c2] 60)
  rw [show (w.alloc (.cells #[.int .i64 o2, .int .i64 n2, .int .u8 p2, .slice A1 t.ts.length c1] 60)).heap.size = w.heap.size + 1 by simp] at hm
  go_enter Tryd.func40, Tryd.ntmps40
  go_upto_region 1 with fail
  generalize (w.alloc (.cells #[.int .i64 o2, .int .i64 n2, .int .u8 p2, .slice A1 t.ts.length c1] 60)).alloc (.cells #[.int .i64 o2, .int .i64 n2, .int .u8 p2, .slice A2 t.ts.length c2] 60) = W at *
  have q0 := hk.cell_ 0 rfl
  have q1 := hk.cell_ 1 rfl
  have q2 := hk.cell_ 2 rfl
  have q3 := hk.cell_ 3 rfl
  have m0 := hm.cell_ 0 rfl
  have m1 := hm.cell_ 1 rfl
  have m2 := hm.cell_ 2 rfl
  have m3 := hm.cell_ 3 rfl
  go_wp2_with fail
  clear q0 q1 q2 q3 m0 m1 m2 m3
  go_loopw [5] (fun y W => ∃ (i : Nat), y = .int .i64 i ∧ i ≤ t.ts.length ∧ Blk W w.heap.size 60 #[.int .i64 o2, .int .i64 n2, .int .u8 p2, .slice A1 t.ts.length c1] ∧ Blk W (w.heap.size + 1) 60 #[.int .i64 o2, .int .i64 n2, .int .u8 p2, .slice A2 t.ts.length c2] ∧ Below w.heap.size w W) (fun y _ => t.ts.length - (intOf y).toNat)
  case atStart => exact ⟨0, rfl, Nat.zero_le _, hk, hm, hB⟩
  case round =>
    clear hk hm hB
    obtain ⟨W, rfl⟩ : ∃ W : World, W = wr := ⟨_, rfl⟩
    obtain ⟨i, rfl, hi, hk, hm, hB⟩ := hrel
    by_cases hlt : i < t.ts.length
    · obtain ⟨t', x1, y1, z1, X1, i1, j1, b, off, ht, hA, _, hT1, d0, d1, d2, d3⟩ := part_at (hT.on hB) hlt
      obtain ⟨t'', x2, y2, z2, X2, i2, j2, b', off', ht2, hA2, _, hT2, e0, e1, e2, e3⟩ := part_at (hU.on hB) hlt
      have hii : (i : Int) < (t.ts.length : Int) := by omega
      dsimp only at hA hA2
      rw [ht] at ht2
      injection ht2 with ht2
      subst ht2 hA hA2
      have HTA := hide hT1
      have HTB := hide hT2
      have ei : IntKind.i64.wrap ((i : Int) + 1) = ((i + 1 : Nat) : Int) := by rw [IntWalk.i64_in _ (by omega)]; push_cast; rfl
      clear ht hT1 hT2
      have HCA : Hid (∀ w, TreeAt w 0 w.heap.size f t' ⟨x1, y1, z1, X1, i1, j1⟩ → TreeAt w 0 w.heap.size f t' ⟨x2, y2, z2, X2, i2, j2⟩ → Calls Tryd.prog 40 #[.agg #[.int .i64 x1, .int .i64 y1, .int .u8 z1, .slice X1 i1 j1], .agg #[.int .i64 x2, .int .i64 y2, .int .u8 z2, .slice X2 i2 j2]] w fun e w' => e = .returned (.bool true) ∧ Below w.heap.size w w') := fun w h1 h2 => HH.out t' x1 y1 z1 X1 i1 j1 x2 y2 z2 X2 i2 j2 w h1 h2
      have q0 := hk.cell_ 0 rfl
      have q1 := hk.cell_ 1 rfl
      have q2 := hk.cell_ 2 rfl
      have q3 := hk.cell_ 3 rfl
      have m0 := hm.cell_ 0 rfl
      have m1 := hm.cell_ 1 rfl
      have m2 := hm.cell_ 2 rfl
      have m3 := hm.cell_ 3 rfl
      go_wp2_with fail
      refine wp_region_quiet (C := fun w' => ∃ u : Since W, w' = u.w) (by kernel_rfl) (by kernel_rfl) (Since.start W) ?_
      dsimp only
      have y_q0 := Since.cell q0
      have y_q1 := Since.cell q1
      have y_q2 := Since.cell q2
      have y_q3 := Since.cell q3
      have y_m0 := Since.cell m0
      have y_m1 := Since.cell m1
      have y_m2 := Since.cell m2
      have y_m3 := Since.cell m3
      have y_d0 := Since.cell d0
      have y_d1 := Since.cell d1
      have y_d2 := Since.cell d2
      have y_d3 := Since.cell d3
      have y_e0 := Since.cell e0
      have y_e1 := Since.cell e1
      have y_e2 := Since.cell e2
      have y_e3 := Since.cell e3
      clear q0 q1 q2 q3 m0 m1 m2 m3
      repeat (go_big_quiet_step ((go_at_call 40; exact Since.calls (HCA.out _ (TreeAt.on HTA.out (Since.h _)) (TreeAt.on HTB.out (Since.h _))))))
      refine wpQuiet_nil ?_
      rintro W ⟨⟨_, hb⟩, rfl⟩
      try dsimp only at hb ⊢
      replace d0 : W.cell? _ = _ := y_d0 ⟨W, hb⟩
      replace d1 : W.cell? _ = _ := y_d1 ⟨W, hb⟩
      replace d2 : W.cell? _ = _ := y_d2 ⟨W, hb⟩
      replace d3 : W.cell? _ = _ := y_d3 ⟨W, hb⟩
      replace e0 : W.cell? _ = _ := y_e0 ⟨W, hb⟩
      replace e1 : W.cell? _ = _ := y_e1 ⟨W, hb⟩
      replace e2 : W.cell? _ = _ := y_e2 ⟨W, hb⟩
      replace e3 : W.cell? _ = _ := y_e3 ⟨W, hb⟩
      clear y_q0 y_q1 y_q2 y_q3 y_m0 y_m1 y_m2 y_m3 y_d0 y_d1 y_d2 y_d3 y_e0 y_e1 y_e2 y_e3
      replace hk := hk.below hb hk.lt
      replace hm := hm.below hb hm.lt
      replace hB := hB.trans (hb.mono hB.size)
      clear hb
      have q0 := hk.cell_ 0 rfl
      have q1 := hk.cell_ 1 rfl
      have q2 := hk.cell_ 2 rfl
      have q3 := hk.cell_ 3 rfl
      have m0 := hm.cell_ 0 rfl
      have m1 := hm.cell_ 1 rfl
      have m2 := hm.cell_ 2 rfl
      have m3 := hm.cell_ 3 rfl
      go_wp2_with fail
      go_roundw
      case rel => exact ⟨i + 1, by go_num, by omega, hk, hm, hB⟩
      case measure => simp [intOf]; omega
    · obtain rfl : i = t.ts.length := by omega
      have q0 := hk.cell_ 0 rfl
      have q1 := hk.cell_ 1 rfl
      have q2 := hk.cell_ 2 rfl
      have q3 := hk.cell_ 3 rfl
      have m0 := hm.cell_ 0 rfl
      have m1 := hm.cell_ 1 rfl
      have m2 := hm.cell_ 2 rfl
      have m3 := hm.cell_ 3 rfl
      go_wp2_with fail
      go_ret
      exact ⟨rfl, hB⟩
theorem same_all : ∀ f, SameAt f
  | 0 => fun t o1 n1 p1 A1 k1 c1 o2 n2 p2 A2 k2 c2 w h => h.elim
  | f + 1 => same_step f (same_all f)
end Go.Proofs.YtecaaimaeaocbaaDoor
