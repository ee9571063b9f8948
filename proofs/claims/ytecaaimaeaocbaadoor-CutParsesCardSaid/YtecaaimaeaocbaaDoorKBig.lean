/- big: has a tree more nodes or levels than the law wants to see? The answer itself does not matter. -/
import Derived.Test.YtecaaimaeaocbaaDoorKCount
namespace Go.Proofs.YtecaaimaeaocbaaDoor
open Go Go.RowKit
def BigPost (d : Nat) (w : World) (e : Ending) (w' : World) : Prop := ∃ (b : Bool) (nd : Int), e = .returned (.bool b) ∧ Blk w' d 3 #[.int .i64 nd] ∧ (b = false → 0 ≤ nd) ∧ nd ≤ 600 ∧ Chg (fun k => k = d) w w'
def BigAt (l : Nat) : Prop := ∀ (t : Tree) (op n pc : Int) (A : Option Addr) (k c B f d : Nat) (nd : Int) (w : World), TreeAt w 0 B f t ⟨op, n, pc, A, k, c⟩ → B ≤ d → Blk w d 3 #[.int .i64 nd] → 0 ≤ nd → nd ≤ 600 →
  Calls Tryd.prog 42 #[.agg #[.int .i64 op, .int .i64 n, .int .u8 pc, .slice A k c], .pointer (some ⟨d, 0, none⟩), .int .i64 l] w fun e w' => BigPost d w e w'
set_option maxRecDepth 100000 in
set_option maxHeartbeats 4000000 in
theorem big_step (l : Nat) (hl : l ≤ 1000) (H : ∀ m, l = m + 1 → BigAt m) : BigAt l := by
  intro t op n pc A k c B f d nd w hT hBd hU hn0 hn6
  obtain ⟨f, rfl⟩ := hT.succ_
  obtain ⟨-, -, -, h4, h5⟩ := hT.head
  dsimp only at h4
  subst h4
  have HH := hide H
  have hgl := hU.lt
  clear H
  have hk := Blk.new w 60 #[.int .i64 op, .int .i64 n, .int .u8 pc, .slice A t.ts.length c]
  have hb0 := (Below.refl w.heap.size w).alloc (Nat.le_refl _) (.cells #[.int .i64 op, .int .i64 n, .int .u8 pc, .slice A t.ts.length c] 60)
  replace hU := hU.alloc (.cells #[.int .i64 op, .int .i64 n, .int .u8 pc, .slice A t.ts.length c] 60)
  replace hT := hT.belowB hb0 (by omega)
  have hC : ChgG d w _ := ChgG.alloc_ (Chg.refl _ w) (.cells #[.int .i64 op, .int .i64 n, .int .u8 pc, .slice A t.ts.length c] 60)
  clear hb0
  go_enter Tryd.func42, Tryd.ntmps42
  go_upto_region 1 with fail
  generalize w.alloc (.cells #[.int .i64 op, .int .i64 n, .int .u8 pc, .slice A t.ts.length c] 60) = W at *
  have u0 := hU.cell_ 0 (v := .int .i64 nd) rfl
  have f1 : IntKind.i64.wrap (nd - 1) = nd - 1 := IntWalk.i64_in _ (by omega)
  go_upto_region 2 with (refine wpList_store_at rfl 3 _ _ rfl (.int .i64 (nd - 1)) hU rfl rfl (by kernel_rfl) rfl (by simp) rfl ?_; intro W3 hU3 hc3)
  clear u0
  replace hk := hk.chg1 hc3 (by omega)
  replace hT := hT.chgB hc3 hBd hU.lt
  replace hC := hC.step hc3 (.inl rfl)
  clear hU hc3
  dsimp only [Array.setIfInBounds] at hU3
  have u0 := hU3.cell_ 0 (v := .int .i64 (nd - 1)) rfl
  by_cases hneg : nd - 1 < 0
  · go_wp2_with fail
    go_ret
    exact ⟨true, nd - 1, rfl, hU3, fun h => (by cases h), by omega, chg_far hC⟩
  · cases l with
    | zero =>
      go_wp2_with fail
      go_ret
      exact ⟨true, nd - 1, rfl, hU3, fun h => (by cases h), by omega, chg_far hC⟩
    | succ m =>
      have HB : Hid (BigAt m) := HH.out m rfl
      have g1 : ¬ ((m + 1 : Nat) : Int) = 0 := by omega
      have g2 : (((m + 1 : Nat) : Int) == 0) = false := by rw [beq_eq_false_iff_ne]; omega
      have g3 : IntKind.i64.wrap (((m + 1 : Nat) : Int) - 1) = (m : Int) := by rw [IntWalk.i64_in _ (by omega)]; omega
      clear HH
      go_wp2_with fail
      go_loopw [7] (fun y wr => ∃ (i : Nat) (nx : Int), y = .int .i64 i ∧ i ≤ t.ts.length ∧ 0 ≤ nx ∧ nx ≤ 600 ∧ Blk wr d 3 #[.int .i64 nx] ∧ Blk wr w.heap.size 60 #[.int .i64 op, .int .i64 n, .int .u8 pc, .slice A t.ts.length c] ∧ TreeAt wr 0 B (f + 1) t ⟨op, n, pc, A, t.ts.length, c⟩ ∧ ChgG d w wr) (fun y _ => t.ts.length - (intOf y).toNat)
      case atStart => exact ⟨0, nd - 1, rfl, Nat.zero_le _, by omega, by omega, hU3, hk, hT, hC⟩
      case round =>
        clear hU3 hk hT hC u0
        obtain ⟨W, rfl⟩ : ∃ W : World, W = wr := ⟨_, rfl⟩
        obtain ⟨i, nx, rfl, hi, hx0, hx6, hU, hk, hT, hC⟩ := hrel
        have q3 := hk.cell_ 3 (v := .slice A t.ts.length c) rfl
        by_cases hlt : i < t.ts.length
        · obtain ⟨t', o1, n1, p1, A1, k1, c1, b, off, ht, hA, _, hT1, d0, d1, d2, d3⟩ := part_at hT hlt
          have hii : (i : Int) < (t.ts.length : Int) := by omega
          dsimp only at hA
          clear ht
          subst hA
          have e2 : IntKind.i64.wrap ((i : Int) + 1) = ((i + 1 : Nat) : Int) := by rw [IntWalk.i64_in _ (by omega)]; push_cast; rfl
          go_wp2_with fail
          refine (HB.out t' o1 n1 p1 A1 k1 c1 B f d nx W hT1 hBd hU hx0 hx6).mono ?_
          rintro e W4 ⟨b2, nd2, he, hU2, hz2, hm2, hc2⟩
          subst he
          have hC2 := hC.step hc2 (.inl rfl)
          have hT2 := hT.chgB hc2 hBd hU.lt
          have hk2 := hk.chg1 hc2 (by omega)
          clear hU hT hT1 hC hk d0 d1 d2 d3 hc2 q3
          cases b2 with
          | true =>
            go_wp2_with fail
            go_ret
            exact ⟨true, nd2, rfl, hU2, fun h => (by cases h), hm2, chg_far hC2⟩
          | false =>
            have hz3 := hz2 rfl
            clear hz2
            go_wp2_with fail
            go_roundw
            case rel => exact ⟨i + 1, nd2, by go_num, by omega, hz3, hm2, hU2, hk2, hT2, hC2⟩
            case measure => simp [intOf]; omega
        · obtain rfl : i = t.ts.length := by omega
          go_wp2_with fail
          go_ret
          exact ⟨false, nx, rfl, hU, fun _ => hx0, hx6, chg_far hC⟩
theorem big_all : ∀ l, l ≤ 1000 → BigAt l
  | 0, h => big_step 0 h fun m hm => absurd hm (by omega)
  | l + 1, h => big_step (l + 1) h fun m hm => by
    obtain rfl : l = m := by omega
    exact big_all l (by omega)
end Go.Proofs.YtecaaimaeaocbaaDoor
