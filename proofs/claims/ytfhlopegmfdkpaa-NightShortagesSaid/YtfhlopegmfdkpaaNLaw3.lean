/- NightChoices: the walk. -/
import Derived.Test.YtfhlopegmfdkpaaNRefChoose
import Derived.Test.YtfhlopegmfdkpaaNLaw2
namespace Go.Proofs.Ytfhlopegmfdkpaa
open Go Go.RowKit
theorem SlcIn.slc {w : World} {A : Option Addr} {l : List Int} {B : Nat} (h : SlcIn (fun b => b < B) w A l) : Slc intEnc 1 w B A l := fun i x hx => by
  obtain ⟨b, off, h1, h2, h3⟩ := h i x hx
  refine ⟨b, off, h1, h2, fun j v hv => ?_⟩
  cases j with
  | zero => simp [intEnc] at hv; subst hv; simpa using h3
  | succ j => simp [intEnc] at hv
theorem Nest.on {w w' : World} {A : Option Addr} {C : List (List Int)} (h : NestIn (fun b => b < w.heap.size) w A C) (hb : Below w.heap.size w w') : NestIn (fun b => b < w'.heap.size) w' A C := fun i l hl => by
  obtain ⟨b, off, A', c', h1, h2, h3, h4⟩ := h.wit hb (fun b h => h) i l hl
  refine ⟨b, off, A', c', h1, Nat.lt_of_lt_of_le h2 hb.size, h3, fun j x hx => ?_⟩
  obtain ⟨b2, off2, g1, g2, g3⟩ := h4 j x hx
  exact ⟨b2, off2, g1, Nat.lt_of_lt_of_le g2 hb.size, g3⟩
set_option maxRecDepth 100000 in
set_option maxHeartbeats 4000000 in
theorem choices_walk (s : Sea) (w : World) (hS : SeaAt w s) :
    Calls Try.prog 7 #[.agg #[.slice s.aJ s.js.length s.cJ, .slice s.aN s.ns.length s.cN]] w fun e w' => e = .returned (.bool true) ∧ Below w.heap.size w w' := by
  obtain ⟨js, ns, aJ, cJ, aN, cN⟩ := s
  obtain ⟨hJ, hN, lj, ln⟩ := hS
  dsimp only at *
  unfold maxLen at lj ln
  have hk := Blk.new w 25 #[.slice aJ js.length cJ, .slice aN ns.length cN]
  have hB := (Below.refl w.heap.size w).alloc (Nat.le_refl _) (.cells #[.slice aJ js.length cJ, .slice aN ns.length cN] 25)
  go_enter Try.func7, Try.ntmps7
  go_wp2_with fail
  generalize w.alloc (.cells #[.slice aJ js.length cJ, .slice aN ns.length cN] 25) = W at *
  have c0 := hk.cell_ 0 rfl
  have c1 := hk.cell_ 1 rfl
  go_wp2_with fail
  refine (wide_any aJ cJ js aN cN ns 80 80 _).mono ?_
  rintro e W ⟨rfl, hb⟩
  clear c0 c1
  replace hk := hk.below hb hk.lt
  replace hB := hB.trans (hb.mono hB.size)
  clear hb
  have c0 := hk.cell_ 0 rfl
  have c1 := hk.cell_ 1 rfl
  cases hw : wideB js ns 80 80
  case true =>
    go_wp2_with fail
    refine (awake_any _).mono ?_
    rintro e W ⟨rfl, hb⟩
    clear c0 c1
    replace hk := hk.below hb hk.lt
    replace hB := hB.trans (hb.mono hB.size)
    clear hb
    have c0 := hk.cell_ 0 rfl
    have c1 := hk.cell_ 1 rfl
    go_wp2_with fail
    go_ret
    exact ⟨rfl, hB⟩
  obtain ⟨w1, w2⟩ := wideB_false (a := 80) (b := 80) hw
  clear hw
  go_wp2_with fail
  refine (apiChoices_any aJ cJ js aN cN ns _ (hJ.on hB) (hN.on hB) (by omega) (by omega)).mono ?_
  rintro e W ⟨A1, k1, C1, rfl, hb, hN1, hC1⟩
  clear c0 c1
  replace hk := hk.below hb hk.lt
  replace hB := hB.trans (hb.mono hB.size)
  clear hb
  have c0 := hk.cell_ 0 rfl
  have c1 := hk.cell_ 1 rfl
  have HC1 := hide hC1
  clear hC1
  go_wp2_with fail
  refine (refChoices_any aJ cJ js aN cN ns _ (hJ.on hB) (hN.on hB) (by omega) (by omega)).mono ?_
  rintro e W ⟨A2, k2, C2, rfl, hb, hN2, hC2⟩
  clear c0 c1
  replace hk := hk.below hb hk.lt
  replace hN1 := Nest.on hN1 hb
  replace hB := hB.trans (hb.mono hB.size)
  clear hb
  have c0 := hk.cell_ 0 rfl
  have c1 := hk.cell_ 1 rfl
  have HC2 := hide hC2
  clear hC2
  obtain rfl : C1 = C2 := by rw [HC1.out, HC2.out]
  obtain ⟨C, rfl⟩ : ∃ C, C = C1 := ⟨_, rfl⟩
  have hCl : C.length ≤ 80 := by
    rw [HC1.out]
    split
    · unfold chooseL; rw [List.length_map]; exact w1
    · simp
  have HROW : Hid (∀ (i : Nat) l, C[i]? = some l → l.length ≤ 100) := fun i l hl => by
    rw [HC1.out] at hl
    split at hl
    · exact chooseL_rows ns js (by omega) i l hl
    · simp at hl
  have HJ := hJ.on hB
  have HN := hN.on hB
  clear HC1 HC2
  generalize hE : wrongF js ns = E at *
  generalize hVB : validB js ns = VB at *
  have vA := fun w => validApi_any aJ cJ js aN cN ns w
  have vR := fun w => refValid_any aJ cJ js aN cN ns w
  rw [hVB] at vA vR
  have VA := hide vA
  have VR := hide vR
  clear vA vR hE hVB
  go_wp2_with fail
  refine wp_region_quiet (C := fun w' => ∃ u : Since W, w' = u.w) (by kernel_rfl) (by kernel_rfl) (Since.start W) ?_
  dsimp only
  have y_c0 := Since.cell c0
  have y_c1 := Since.cell c1
  clear c0 c1
  repeat (go_big_quiet_step ((first | (go_at_call 27; exact Since.calls (VA.out _ (HJ.on (Since.h _)) (HN.on (Since.h _)) (by omega) (by omega))) | (go_at_call 15; exact Since.calls (VR.out _ (HJ.on (Since.h _)) (HN.on (Since.h _)) (by omega) (by omega))))))
  refine wpQuiet_nil ?_
  rintro W ⟨⟨_, hb⟩, rfl⟩
  try dsimp only at hb ⊢
  clear y_c0 y_c1
  replace hk := hk.below hb hk.lt
  replace hN1 := Nest.on hN1 hb
  replace hN2 := Nest.on hN2 hb
  replace hB := hB.trans (hb.mono hB.size)
  clear hb
  have c0 := hk.cell_ 0 rfl
  have c1 := hk.cell_ 1 rfl
  go_wp2_with fail
  clear c0 c1
  go_loopw [7] (fun y W => ∃ (i : Nat), y = .int .i64 i ∧ i ≤ C.length ∧ Blk W w.heap.size 25 #[.slice aJ js.length cJ, .slice aN ns.length cN] ∧ NestIn (fun b => b < W.heap.size) W A1 C ∧ NestIn (fun b => b < W.heap.size) W A2 C ∧ Below w.heap.size w W) (fun y _ => C.length - (intOf y).toNat)
  case atStart => exact ⟨0, rfl, Nat.zero_le _, hk, hN1, hN2, hB⟩
  case round =>
    clear hk hN1 hN2 hB
    obtain ⟨W, rfl⟩ : ∃ W : World, W = wr := ⟨_, rfl⟩
    obtain ⟨i, rfl, hi, hk, hN1, hN2, hB⟩ := hrel
    by_cases hlt : i < C.length
    · obtain ⟨l, hl⟩ : ∃ l, C[i]? = some l := ⟨_, List.getElem?_eq_getElem hlt⟩
      have hll := HROW.out i l hl
      obtain ⟨b1, off1, A1', c1', hA1, _, d0, S1⟩ := hN1 i l hl
      obtain ⟨b2, off2, A2', c2', hA2, _, d1, S2⟩ := hN2 i l hl
      have hii : (i : Int) < (C.length : Int) := by omega
      have T1 := SlcIn.slc S1
      have T2 := SlcIn.slc S2
      clear hl S1 S2
      subst hA1 hA2
      have c0 := hk.cell_ 0 rfl
      have c1 := hk.cell_ 1 rfl
      go_wp2_with fail
      refine wp_region_quiet (C := fun w' => ∃ u : Since W, w' = u.w) (by kernel_rfl) (by kernel_rfl) (Since.start W) ?_
      dsimp only
      have y_c0 := Since.cell c0
      have y_c1 := Since.cell c1
      have y_d0 := Since.cell d0
      have y_d1 := Since.cell d1
      clear c0 c1
      repeat (go_big_quiet_step ((go_at_call 28; exact Since.calls (same_yes A1' c1' l A2' c2' _ _ _ (T1.below (Since.h _)) (T2.below (Since.h _)) (by omega)))))
      refine wpQuiet_nil ?_
      rintro W ⟨⟨_, hb⟩, rfl⟩
      try dsimp only at hb ⊢
      replace d0 : W.cell? _ = _ := y_d0 ⟨W, hb⟩
      replace d1 : W.cell? _ = _ := y_d1 ⟨W, hb⟩
      clear y_c0 y_c1 y_d0 y_d1
      replace hk := hk.below hb hk.lt
      replace hN1 := Nest.on hN1 hb
      replace hN2 := Nest.on hN2 hb
      replace hB := hB.trans (hb.mono hB.size)
      clear hb
      have c0 := hk.cell_ 0 rfl
      have c1 := hk.cell_ 1 rfl
      go_wp2_with fail
      go_roundw
      case rel => exact ⟨i + 1, by go_num, by omega, hk, hN1, hN2, hB⟩
      case measure => simp [intOf]; omega
    · obtain rfl : i = C.length := by omega
      have c0 := hk.cell_ 0 rfl
      have c1 := hk.cell_ 1 rfl
      go_wp2_with fail
      refine (awake_any _).mono ?_
      rintro e W ⟨rfl, hb⟩
      clear c0 c1
      replace hk := hk.below hb hk.lt
      replace hN1 := Nest.on hN1 hb
      replace hN2 := Nest.on hN2 hb
      replace hB := hB.trans (hb.mono hB.size)
      clear hb
      have c0 := hk.cell_ 0 rfl
      have c1 := hk.cell_ 1 rfl
      go_wp2_with fail
      go_ret
      exact ⟨rfl, hB⟩
end Go.Proofs.Ytfhlopegmfdkpaa
