/- The levels of a tree: deep and Parse of the program. -/
import Derived.Test.YtecaaimaeaocbaaDoorKCut
namespace Go.Proofs.YtecaaimaeaocbaaDoor
open Go Go.RowKit
def DeepAt (f : Nat) : Prop := ∀ (t : Tree) (op n pc : Int) (A : Option Addr) (k c L : Nat) (w : World), TreeAt w L w.heap.size f t ⟨op, n, pc, A, k, c⟩ →
  Calls Tryd.prog 75 #[.agg #[.int .i64 op, .int .i64 n, .int .u8 pc, .slice A k c]] w fun e w' => e = .returned (.int .i64 (dpT f t)) ∧ Below w.heap.size w w'
theorem DeepAt.is {f : Nat} (H : DeepAt f) {t : Tree} {op n pc : Int} {A : Option Addr} {k c L : Nat} {w : World} (h : TreeAt w L w.heap.size f t ⟨op, n, pc, A, k, c⟩) {m : Nat} (hm : dpT f t = m) :
    Calls Tryd.prog 75 #[.agg #[.int .i64 op, .int .i64 n, .int .u8 pc, .slice A k c]] w fun e w' => e = .returned (.int .i64 m) ∧ Below w.heap.size w w' := by
  subst hm; exact H t op n pc A k c L w h
set_option maxRecDepth 100000 in
set_option maxHeartbeats 4000000 in
theorem deep_step (f : Nat) (hf : f ≤ 1000000) (H : DeepAt f) : DeepAt (f + 1) := by
  intro t op n pc A k c L w hT
  obtain ⟨_, _, _, e4, e5⟩ := hT.head
  dsimp only at e4
  subst e4
  have HH := hide H
  clear H
  have hk := Blk.new w 60 #[.int .i64 op, .int .i64 n, .int .u8 pc, .slice A t.ts.length c]
  have hB := (Below.refl w.heap.size w).alloc (Nat.le_refl _) (.cells #[.int .i64 op, .int .i64 n, .int .u8 pc, .slice A t.ts.length c] 60)
  go_enter Tryd.func75, Tryd.ntmps75
  go_upto_region 1 with fail
  generalize w.alloc (.cells #[.int .i64 op, .int .i64 n, .int .u8 pc, .slice A t.ts.length c] 60) = W at *
  have q0 := hk.cell_ 0 rfl
  have q1 := hk.cell_ 1 rfl
  have q2 := hk.cell_ 2 rfl
  have q3 := hk.cell_ 3 rfl
  go_wp2_with fail
  clear q0 q1 q2 q3
  go_loopw [3, 9] (fun x y W => ∃ (m i : Nat), x = .int .i64 m ∧ y = .int .i64 i ∧ i ≤ t.ts.length ∧ m ≤ f ∧ Hid (((t.ts.take i).map (dpT f)).foldl max 0 = m) ∧ Blk W w.heap.size 60 #[.int .i64 op, .int .i64 n, .int .u8 pc, .slice A t.ts.length c] ∧ Below w.heap.size w W) (fun x y _ => t.ts.length - (intOf y).toNat)
  case atStart => exact ⟨0, 0, rfl, rfl, Nat.zero_le _, Nat.zero_le _, rfl, hk, hB⟩
  case round =>
    clear hk hB
    obtain ⟨W, rfl⟩ : ∃ W : World, W = wr := ⟨_, rfl⟩
    obtain ⟨m, i, rfl, rfl, hi, hm, HM, hk, hB⟩ := hrel
    by_cases hlt : i < t.ts.length
    · obtain ⟨t', o1, n1, p1, A1, k1, c1, b, off, ht, hA, _, hT1, d0, d1, d2, d3⟩ := part_at (hT.on hB) hlt
      have hii : (i : Int) < (t.ts.length : Int) := by omega
      dsimp only at hA
      have HT := hide ht
      clear ht
      subst hA
      obtain ⟨q, hq⟩ : ∃ q, dpT f t' = q := ⟨_, rfl⟩
      have hq2 : q ≤ f := by rw [← hq]; exact dpT_le f t'
      have HQ := hide hq
      clear hq
      have q0 := hk.cell_ 0 rfl
      have q1 := hk.cell_ 1 rfl
      have q2 := hk.cell_ 2 rfl
      have q3 := hk.cell_ 3 rfl
      have q_q0 := (hk.alloc (.cells #[.int .i64 o1, .int .i64 n1, .int .u8 p1, .slice A1 k1 c1] 60)).cell_ 0 rfl
      have q_q1 := (hk.alloc (.cells #[.int .i64 o1, .int .i64 n1, .int .u8 p1, .slice A1 k1 c1] 60)).cell_ 1 rfl
      have q_q2 := (hk.alloc (.cells #[.int .i64 o1, .int .i64 n1, .int .u8 p1, .slice A1 k1 c1] 60)).cell_ 2 rfl
      have q_q3 := (hk.alloc (.cells #[.int .i64 o1, .int .i64 n1, .int .u8 p1, .slice A1 k1 c1] 60)).cell_ 3 rfl
      go_upto_region 5 with fail
      clear q_q0 q_q1 q_q2 q_q3
      clear q0 q1 q2 q3
      have hm1 := Blk.new W 60 #[.int .i64 o1, .int .i64 n1, .int .u8 p1, .slice A1 k1 c1]
      replace hk := hk.alloc (.cells #[.int .i64 o1, .int .i64 n1, .int .u8 p1, .slice A1 k1 c1] 60)
      replace hT1 := TreeAt.on hT1 ((Below.refl _ W).alloc (Nat.le_refl _) (.cells #[.int .i64 o1, .int .i64 n1, .int .u8 p1, .slice A1 k1 c1] 60))
      have hsz_bm : (W.alloc (.cells #[.int .i64 o1, .int .i64 n1, .int .u8 p1, .slice A1 k1 c1] 60)).heap.size = W.heap.size + 1 := by simp
      have bmge := hB.size
      replace hB := hB.alloc hB.size (.cells #[.int .i64 o1, .int .i64 n1, .int .u8 p1, .slice A1 k1 c1] 60)
      generalize hbm : W.heap.size = bm at *
      generalize W.alloc (.cells #[.int .i64 o1, .int .i64 n1, .int .u8 p1, .slice A1 k1 c1] 60) = W at *
      clear hbm
      have q0 := hk.cell_ 0 rfl
      have q1 := hk.cell_ 1 rfl
      have q2 := hk.cell_ 2 rfl
      have q3 := hk.cell_ 3 rfl
      have m0 := hm1.cell_ 0 rfl
      have m1 := hm1.cell_ 1 rfl
      have m2 := hm1.cell_ 2 rfl
      have m3 := hm1.cell_ 3 rfl
      clear d0 d1 d2 d3
      have e2 : IntKind.i64.wrap ((i : Int) + 1) = ((i + 1 : Nat) : Int) := by rw [IntWalk.i64_in _ (by omega)]; push_cast; rfl
      have e1 : max (m : Int) (q : Int) = ((max m q : Nat) : Int) := by omega
      go_wp2_with fail
      refine (HH.out.is hT1 HQ.out).mono ?_
      rintro e W ⟨rfl, hb⟩
      clear q0 q1 q2 q3 m0 m1 m2 m3
      replace hk := hk.below hb hk.lt
      replace hT1 := TreeAt.on hT1 hb
      replace hm1 := hm1.below hb hm1.lt
      replace hB := hB.trans (hb.mono hB.size)
      clear hb
      have q0 := hk.cell_ 0 rfl
      have q1 := hk.cell_ 1 rfl
      have q2 := hk.cell_ 2 rfl
      have q3 := hk.cell_ 3 rfl
      have m0 := hm1.cell_ 0 rfl
      have m1 := hm1.cell_ 1 rfl
      have m2 := hm1.cell_ 2 rfl
      have m3 := hm1.cell_ 3 rfl
      clear q0 q1 q2 q3 m0 m1 m2 m3
      go_wp2_with fail
      go_roundw
      case rel => exact ⟨max m q, i + 1, by go_num, by go_num, by omega, by omega, by show _ = _; rw [fold_snoc HT.out, HM.out, HQ.out], hk, hB⟩
      case measure => simp [intOf]; omega
    · obtain rfl : i = t.ts.length := by omega
      have HV : Hid (dpT (f + 1) t = m + 1) := by
        show _ = _
        have := HM.out
        rw [List.take_length] at this
        rw [← this]; rfl
      have q0 := hk.cell_ 0 rfl
      have q1 := hk.cell_ 1 rfl
      have q2 := hk.cell_ 2 rfl
      have q3 := hk.cell_ 3 rfl
      go_wp2_with fail
      go_ret
      exact ⟨by rw [HV.out]; go_num, hB⟩
theorem deep_all : ∀ f, f ≤ 1000000 → DeepAt f
  | 0, _ => fun t op n pc A k c L w h => h.elim
  | f + 1, h => deep_step f (by omega) (deep_all f (by omega))
end Go.Proofs.YtecaaimaeaocbaaDoor
