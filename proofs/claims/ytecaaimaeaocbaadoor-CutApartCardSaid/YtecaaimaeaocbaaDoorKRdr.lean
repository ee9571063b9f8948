/- The document's reader: word. -/
import Derived.Test.YtecaaimaeaocbaaDoorKStr
import Derived.Test.YtecaaimaeaocbaaDoorRegion
namespace Go.Proofs.YtecaaimaeaocbaaDoor
open Go Go.RowKit
/-- a text has a word at a place -/
def atB (s p : ByteArray) (i : Nat) : Bool := decide (p.size ≤ s.size - i) && ((s.extract i (i + p.size)).toList == p.toList)
theorem chg_quiet {g : Nat} {w w' : World} (h : Below w.heap.size w w') : Chg (fun k => k = g) w w' := Chg.of_below' h fun k h1 h2 => absurd h2 (by omega)
set_option maxRecDepth 100000 in
set_option maxHeartbeats 1000000 in
theorem rword_any (g : Nat) (s p : ByteArray) (i : Nat) (bad : Bool) (W : World) (hi : i ≤ s.size) (hs : s.size ≤ 1000000) (hp : p.size ≤ 100) (hk : Blk W g 108 #[.string s, .int .i64 i, .bool bad]) :
    Calls Tryd.prog 97 #[.pointer (some ⟨g, 0, none⟩), .string p] W fun e w' => e = .returned (.tuple #[]) ∧ Blk w' g 108 (if !bad && atB s p i then #[.string s, .int .i64 (i + p.size : Nat), .bool false] else #[.string s, .int .i64 i, .bool true]) ∧ Chg (fun k => k = g) W w' := by
  have hgl := hk.lt
  have q0 := hk.cell_ 0 (v := .string s) rfl
  have q1 := hk.cell_ 1 (v := .int .i64 i) rfl
  have q2 := hk.cell_ 2 (v := .bool bad) rfl
  have e1 : IntKind.i64.wrap ((s.size : Int) - (i : Int)) = ((s.size - i : Nat) : Int) := by rw [IntWalk.i64_in _ (by omega)]; omega
  have e2 : IntKind.i64.wrap ((i : Int) + (p.size : Int)) = ((i + p.size : Nat) : Int) := by rw [IntWalk.i64_in _ (by omega)]; omega
  cases bad with
  | true =>
    rw [show (!true && atB s p i) = false from rfl]
    go_enter Tryd.func97, Tryd.ntmps97
    go_wp2_with fail
    refine wp_region_quiet (C := fun w' => ∃ u : Since W, w' = u.w) (by kernel_rfl) (by kernel_rfl) (Since.start W) ?_
    dsimp only
    have y0 := Since.cell q0
    have y1 := Since.cell q1
    have y2 := Since.cell q2
    have Hk := hide hk
    clear hk q0 q1 q2
    repeat (go_big_quiet_step (fail))
    refine wpQuiet_nil ?_
    rintro W2 ⟨⟨_, hb⟩, rfl⟩
    try dsimp only at hb ⊢
    clear y0 y1 y2
    have hk2 := Hk.out.below hb hgl
    have hc2 := chg_quiet (g := g) hb
    go_wp2_with (refine wpList_store_at rfl 4 _ _ rfl (.bool true) hk2 rfl rfl (by kernel_rfl) rfl (by simp) rfl ?_; intro W3 hk3 hc3)
    exact bodyPost_ret (v := .tuple #[]) (results_none rfl _ _ _) rfl ⟨rfl, hk3, hc2.trans hc3⟩
  | false =>
    rw [Bool.not_false, Bool.true_and]
    by_cases h : p.size ≤ s.size - i
    · have h1 : ¬ ((s.size - i : Nat) : Int) < (p.size : Int) := by omega
      have h6 : decide (s.size - i < p.size) = false := decide_eq_false (by omega)
      have h2 : ((i + p.size : Nat) : Int) ≤ (s.size : Int) := by omega
      have h3 : (i : Int) ≤ ((i + p.size : Nat) : Int) := by omega
      have h4 : (0 : Int) ≤ (i : Int) := by omega
      have h5 : (0 : Int) ≤ ((i + p.size : Nat) : Int) := by omega
      obtain ⟨b, hb⟩ : ∃ b, ((s.extract i (i + p.size)).toList == p.toList) = b := ⟨_, rfl⟩
      have e : atB s p i = b := by unfold atB; rw [decide_eq_true h, Bool.true_and, hb]
      rw [e]
      clear e
      cases b with
      | true =>
        rw [if_pos rfl]
        go_enter Tryd.func97, Tryd.ntmps97
        go_wp2_with fail
        refine wp_region_quiet (C := fun w' => ∃ u : Since W, w' = u.w) (by kernel_rfl) (by kernel_rfl) (Since.start W) ?_
        dsimp only
        have y0 := Since.cell q0
        have y1 := Since.cell q1
        have y2 := Since.cell q2
        have Hk := hide hk
        clear hk q0 q1 q2
        repeat (go_big_quiet_step (fail))
        refine wpQuiet_nil ?_
        rintro W2 ⟨⟨_, hb⟩, rfl⟩
        try dsimp only at hb ⊢
        clear y0 y1 y2
        have hk2 := Hk.out.below hb hgl
        have hc2 := chg_quiet (g := g) hb
        have q1 := hk2.cell_ 1 (v := .int .i64 i) rfl
        go_wp2_with (refine wpList_store_at rfl 3 _ _ rfl (.int .i64 (i + p.size : Nat)) hk2 rfl rfl (by kernel_rfl) rfl (by simp) rfl ?_; intro W3 hk3 hc3)
        exact bodyPost_end (v := .tuple #[]) (results_none rfl _ _ _) rfl ⟨rfl, hk3, hc2.trans hc3⟩
      | false =>
        rw [if_neg (by simp)]
        go_enter Tryd.func97, Tryd.ntmps97
        go_wp2_with fail
        refine wp_region_quiet (C := fun w' => ∃ u : Since W, w' = u.w) (by kernel_rfl) (by kernel_rfl) (Since.start W) ?_
        dsimp only
        have y0 := Since.cell q0
        have y1 := Since.cell q1
        have y2 := Since.cell q2
        have Hk := hide hk
        clear hk q0 q1 q2
        repeat (go_big_quiet_step (fail))
        refine wpQuiet_nil ?_
        rintro W2 ⟨⟨_, hb⟩, rfl⟩
        try dsimp only at hb ⊢
        clear y0 y1 y2
        have hk2 := Hk.out.below hb hgl
        have hc2 := chg_quiet (g := g) hb
        go_wp2_with (refine wpList_store_at rfl 4 _ _ rfl (.bool true) hk2 rfl rfl (by kernel_rfl) rfl (by simp) rfl ?_; intro W3 hk3 hc3)
        exact bodyPost_ret (v := .tuple #[]) (results_none rfl _ _ _) rfl ⟨rfl, hk3, hc2.trans hc3⟩
    · have h1 : ((s.size - i : Nat) : Int) < (p.size : Int) := by omega
      have h6 : decide (s.size - i < p.size) = true := decide_eq_true (by omega)
      have e : atB s p i = false := by unfold atB; rw [decide_eq_false h]; rfl
      rw [e, if_neg (by simp)]
      go_enter Tryd.func97, Tryd.ntmps97
      go_wp2_with fail
      refine wp_region_quiet (C := fun w' => ∃ u : Since W, w' = u.w) (by kernel_rfl) (by kernel_rfl) (Since.start W) ?_
      dsimp only
      have y0 := Since.cell q0
      have y1 := Since.cell q1
      have y2 := Since.cell q2
      have Hk := hide hk
      clear hk q0 q1 q2
      repeat (go_big_quiet_step (fail))
      refine wpQuiet_nil ?_
      rintro W2 ⟨⟨_, hb⟩, rfl⟩
      try dsimp only at hb ⊢
      clear y0 y1 y2
      have hk2 := Hk.out.below hb hgl
      have hc2 := chg_quiet (g := g) hb
      go_wp2_with (refine wpList_store_at rfl 4 _ _ rfl (.bool true) hk2 rfl rfl (by kernel_rfl) rfl (by simp) rfl ?_; intro W3 hk3 hc3)
      exact bodyPost_ret (v := .tuple #[]) (results_none rfl _ _ _) rfl ⟨rfl, hk3, hc2.trans hc3⟩
end Go.Proofs.YtecaaimaeaocbaaDoor
