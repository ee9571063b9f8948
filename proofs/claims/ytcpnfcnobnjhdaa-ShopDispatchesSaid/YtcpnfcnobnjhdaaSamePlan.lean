/- Whether two plans are equal: the walk, for equal plans. -/
import Derived.Test.YtcpnfcnobnjhdaaWide
namespace Go.Proofs.Ytcpnfcnobnjhdaa
open Go.RowKit
set_option maxRecDepth 100000 in
theorem samePlan_any (A1 A2 : Option Addr) (c1 c2 : Nat) (pl : List (List Int)) (w : World) (h1 : Plan w w.heap.size A1 pl) (h2 : Plan w w.heap.size A2 pl) (hf : PFits pl) :
    Calls Try.prog 34 #[.slice A1 pl.length c1, .slice A2 pl.length c2] w fun e w' => e = .returned (.bool true) ∧ Below w.heap.size w w' := by
  have hf1 := hf.h1
  have hB : Below w.heap.size w w := Below.refl _ _
  go_enter Try.func34, Try.ntmps34
  go_wp2_with fail
  generalize hWw : w = W at hB ⊢
  subst hWw
  go_loopw [5] (fun x W => ∃ i : Nat, x = .int .i64 i ∧ i ≤ pl.length ∧ Below w.heap.size w W) (fun x _ => pl.length - (intOf x).toNat)
  case atStart => exact ⟨0, rfl, Nat.zero_le _, hB⟩
  case round =>
    clear hB
    obtain ⟨W, rfl⟩ : ∃ W : World, W = wr := ⟨_, rfl⟩
    obtain ⟨i, rfl, hi, hB⟩ := hrel
    by_cases hlt : i < pl.length
    · obtain ⟨l, hl⟩ : ∃ l, pl[i]? = some l := ⟨_, List.getElem?_eq_getElem hlt⟩
      have hll := hf.h2 l (List.mem_of_getElem? hl)
      obtain ⟨b, off, A', c', rfl, hb0, hc, hS1⟩ := plan_at (h1.on hB) hl
      obtain ⟨b', off', A2', c2', rfl, hb0', hc', hS2⟩ := plan_at (h2.on hB) hl
      have HL := hide hl
      clear hl
      have hii : (i : Int) < (pl.length : Int) := by omega
      go_wp2_with fail
      refine wp_region_quiet (C := fun w' => ∃ u : Since W, w' = u.w) (by kernel_rfl) (by kernel_rfl) (Since.start W) ?_
      dsimp only
      have y_hc := Since.cell hc
      have y_hc' := Since.cell hc'
      repeat (go_big_quiet_step ((fail)))
      refine wpQuiet_nil ?_
      rintro W ⟨⟨_, hb⟩, rfl⟩
      try dsimp only at hb ⊢
      replace hc : W.cell? _ = _ := y_hc ⟨W, hb⟩
      replace hc' : W.cell? _ = _ := y_hc' ⟨W, hb⟩
      clear y_hc y_hc'
      replace hB := hB.trans (hb.mono hB.size)
      clear hb
      have HS1 := hide hS1
      have HS2 := hide hS2
      go_wp2_with fail
      clear hc hc'
      go_loopw [6] (fun x W => ∃ k : Nat, x = .int .i64 k ∧ k ≤ l.length ∧ Below w.heap.size w W) (fun x _ => l.length - (intOf x).toNat)
      case atStart => exact ⟨0, rfl, Nat.zero_le _, hB⟩
      case round =>
        clear hB HS1 HS2 hS1 hS2
        obtain ⟨W, rfl⟩ : ∃ W : World, W = wr := ⟨_, rfl⟩
        obtain ⟨k, rfl, hk, hB⟩ := hrel
        obtain ⟨b1, off1, A3, c3, hA1, _, hc, hS1⟩ := plan_at (h1.on hB) HL.out
        obtain ⟨b2, off2, A4, c4, hA2, _, hc', hS2⟩ := plan_at (h2.on hB) HL.out
        injection hA1 with hA1
        injection hA1 with e1 e2
        subst e1 e2
        injection hA2 with hA2
        injection hA2 with e1 e2
        subst e1 e2
        by_cases hlt2 : k < l.length
        · obtain ⟨n, hn⟩ : ∃ n, l[k]? = some n := ⟨_, List.getElem?_eq_getElem hlt2⟩
          obtain ⟨b3, off3, hA3, _, d1⟩ := int_at hS1 hn
          obtain ⟨b4, off4, hA4, _, d2⟩ := int_at hS2 hn
          subst hA3 hA4
          clear hn
          have hki : (k : Int) < (l.length : Int) := by omega
          go_wp2_with fail
          go_wp2_with fail
          refine wp_region_quiet (C := fun w' => ∃ u : Since W, w' = u.w) (by kernel_rfl) (by kernel_rfl) (Since.start W) ?_
          dsimp only
          have y_hc := Since.cell hc
          have y_hc' := Since.cell hc'
          have y_d1 := Since.cell d1
          have y_d2 := Since.cell d2
          repeat (go_big_quiet_step ((fail)))
          refine wpQuiet_nil ?_
          rintro W ⟨⟨_, hb⟩, rfl⟩
          try dsimp only at hb ⊢
          replace hc : W.cell? _ = _ := y_hc ⟨W, hb⟩
          replace hc' : W.cell? _ = _ := y_hc' ⟨W, hb⟩
          replace d1 : W.cell? _ = _ := y_d1 ⟨W, hb⟩
          replace d2 : W.cell? _ = _ := y_d2 ⟨W, hb⟩
          clear y_hc y_hc' y_d1 y_d2
          replace hB := hB.trans (hb.mono hB.size)
          clear hb
          go_wp2_with fail
          go_roundw
          case rel => exact ⟨k + 1, by go_num, by omega, hB⟩
          case measure => simp [intOf]; omega
        · obtain rfl : k = l.length := by omega
          go_wp2_with fail
          go_roundw
          case rel => exact ⟨i + 1, by go_num, by omega, hB⟩
          case measure => simp [intOf]; omega
    · obtain rfl : i = pl.length := by omega
      go_wp2_with fail
      go_ret
      exact ⟨rfl, hB⟩
end Go.Proofs.Ytcpnfcnobnjhdaa
