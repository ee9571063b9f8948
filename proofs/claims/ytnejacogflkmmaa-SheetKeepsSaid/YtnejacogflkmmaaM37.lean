/- Parts of the proofs of this seat: SameV. Each part says what it proves; no condition beyond those stated there. -/
import Derived.Test.YtnejacogflkmmaaM23
import Derived.Test.YtnejacogflkmmaaM28

/- SamePieces, sameItem and SameItems of the laws, where both sides are the same: the walks. -/
namespace Go.Proofs.Ytnejacogflkmmaa
open Go Go.RowKit
theorem fields_pce : (Try.prog.fieldsOf 48).toList.map (fun f => (f.name == "_", f.type, f.offset)) = [(false, 3, 0), (false, 3, 1), (false, 3, 2), (false, 3, 3), (false, 3, 4), (false, 3, 5), (false, 3, 6), (false, 3, 7)] := by kernel_rfl
theorem fields_span : (Try.prog.fieldsOf 87).toList.map (fun f => (f.name == "_", f.type, f.offset)) = [(false, 3, 0), (false, 3, 1)] := by kernel_rfl
set_option maxHeartbeats 4000000 in
theorem neq_span (a b : Int) (w : World) : (binOp .neq 87 (.agg #[.int .i64 a, .int .i64 b]) (.agg #[.int .i64 a, .int .i64 b])).run Try.prog w = .ok (.bool false) w := by
  have he : (Op.equalIn 10000 87 (.agg #[.int .i64 a, .int .i64 b]) (.agg #[.int .i64 a, .int .i64 b])).run Try.prog w = .ok true w := by
    have hf := fields_span
    rw [run_equalIn_struct w 9999 _ _ _ (by kernel_rfl) (by kernel_rfl)]
    generalize (Try.prog.fieldsOf 87).toList = l at hf
    have hlen : l.length = 2 := by have := congrArg List.length hf; simpa using this
    match l, hlen, hf with
    | [f0, f1], _, hf =>
      simp only [List.map_cons, List.map_nil, List.cons.injEq, Prod.mk.injEq] at hf
      obtain ⟨h0, h1, -⟩ := hf
      have n0 : f0.name ≠ "_" := by simpa using h0.1
      have n1 : f1.name ≠ "_" := by simpa using h1.1
      simp [Op.eqFields, n0, n1, h0.2.1, h0.2.2, h1.2.1, h1.2.2, part, isAgg, run_underlying Try.underlying3, run_equalIn_int]
  simp [binOp, Op.equal, Op.maxDepth, he]
set_option maxHeartbeats 8000000 in
theorem neq_pce (a b c d e f g h : Int) (w : World) : (binOp .neq 48 (.agg #[.int .i64 a, .int .i64 b, .int .i64 c, .int .i64 d, .int .i64 e, .int .i64 f, .int .i64 g, .int .i64 h]) (.agg #[.int .i64 a, .int .i64 b, .int .i64 c, .int .i64 d, .int .i64 e, .int .i64 f, .int .i64 g, .int .i64 h])).run Try.prog w = .ok (.bool false) w := by
  have he : (Op.equalIn 10000 48 (.agg #[.int .i64 a, .int .i64 b, .int .i64 c, .int .i64 d, .int .i64 e, .int .i64 f, .int .i64 g, .int .i64 h]) (.agg #[.int .i64 a, .int .i64 b, .int .i64 c, .int .i64 d, .int .i64 e, .int .i64 f, .int .i64 g, .int .i64 h])).run Try.prog w = .ok true w := by
    have hf := fields_pce
    rw [run_equalIn_struct w 9999 _ _ _ (by kernel_rfl) (by kernel_rfl)]
    generalize (Try.prog.fieldsOf 48).toList = l at hf
    have hlen : l.length = 8 := by have := congrArg List.length hf; simpa using this
    match l, hlen, hf with
    | [f0, f1, f2, f3, f4, f5, f6, f7], _, hf =>
      simp only [List.map_cons, List.map_nil, List.cons.injEq, Prod.mk.injEq] at hf
      obtain ⟨h0, h1, h2, h3, h4, h5, h6, h7, -⟩ := hf
      have n0 : f0.name ≠ "_" := by simpa using h0.1
      have n1 : f1.name ≠ "_" := by simpa using h1.1
      have n2 : f2.name ≠ "_" := by simpa using h2.1
      have n3 : f3.name ≠ "_" := by simpa using h3.1
      have n4 : f4.name ≠ "_" := by simpa using h4.1
      have n5 : f5.name ≠ "_" := by simpa using h5.1
      have n6 : f6.name ≠ "_" := by simpa using h6.1
      have n7 : f7.name ≠ "_" := by simpa using h7.1
      simp [Op.eqFields, n0, n1, n2, n3, n4, n5, n6, n7, h0.2.1, h0.2.2, h1.2.1, h1.2.2, h2.2.1, h2.2.2, h3.2.1, h3.2.2, h4.2.1, h4.2.2, h5.2.1, h5.2.2, h6.2.1, h6.2.2, h7.2.1, h7.2.2, part, isAgg, run_underlying Try.underlying3, run_equalIn_int]
  simp [binOp, Op.equal, Op.maxDepth, he]
set_option maxRecDepth 100000 in
set_option maxHeartbeats 2000000 in
theorem samePieces_yes (A : Option Addr) (cA : Nat) (B : Option Addr) (cB : Nat) (ps : List Piece) (w : World) (hA : Slc Piece.enc 8 w w.heap.size A ps) (hB : Slc Piece.enc 8 w w.heap.size B ps) (hl : ps.length ≤ 1000000) :
    Calls Try.prog 32 #[.slice A ps.length cA, .slice B ps.length cB] w fun e w' => e = .returned (.bool true) ∧ Below w.heap.size w w' := by
  have G : ∀ W, Below w.heap.size w W → Calls Try.prog 32 #[.slice A ps.length cA, .slice B ps.length cB] W fun e w' => e = .returned (.bool true) ∧ Below w.heap.size w w' := by
    intro W hBl
    go_enter Try.func32, Try.ntmps32
    go_wp2_with fail
    go_loopw [5] (fun y W => ∃ (i : Nat), y = .int .i64 i ∧ i ≤ ps.length ∧ Below w.heap.size w W) (fun y _ => ps.length - (intOf y).toNat)
    case atStart => exact ⟨0, rfl, Nat.zero_le _, hBl⟩
    case round =>
      clear hBl
      obtain ⟨W, rfl⟩ : ∃ W : World, W = wr := ⟨_, rfl⟩
      obtain ⟨i, rfl, hi, hBl⟩ := hrel
      by_cases hlt : i < ps.length
      · obtain ⟨x, hx⟩ : ∃ x, ps[i]? = some x := ⟨_, List.getElem?_eq_getElem hlt⟩
        obtain ⟨b1, o1, hA1, _, d0, d1, d2, d3, d4, d5, d6, d7⟩ := pce_at (hA.below hBl) hx
        obtain ⟨b2, o2, hB1, _, e0, e1, e2, e3, e4, e5, e6, e7⟩ := pce_at (hB.below hBl) hx
        have hii : (i : Int) < (ps.length : Int) := by omega
        have ei : IntKind.i64.wrap ((i : Int) + 1) = ((i + 1 : Nat) : Int) := by rw [IntWalk.i64_in _ (by omega)]; push_cast; rfl
        have hnp := neq_pce x.id x.root x.lot x.grade x.colour x.width x.length x.use
        clear hx
        subst hA1 hB1
        go_wp2_with fail
        refine wp_region_quiet (C := fun w' => ∃ u : Since W, w' = u.w) (by kernel_rfl) (by kernel_rfl) (Since.start W) ?_
        dsimp only
        have y_d0 := Since.cell d0
        have y_d1 := Since.cell d1
        have y_d2 := Since.cell d2
        have y_d3 := Since.cell d3
        have y_d4 := Since.cell d4
        have y_d5 := Since.cell d5
        have y_d6 := Since.cell d6
        have y_d7 := Since.cell d7
        have y_e0 := Since.cell e0
        have y_e1 := Since.cell e1
        have y_e2 := Since.cell e2
        have y_e3 := Since.cell e3
        have y_e4 := Since.cell e4
        have y_e5 := Since.cell e5
        have y_e6 := Since.cell e6
        have y_e7 := Since.cell e7
        repeat (go_big_quiet_step ((fail)))
        refine wpQuiet_nil ?_
        rintro W ⟨⟨_, hb⟩, rfl⟩
        try dsimp only at hb ⊢
        replace d0 : W.cell? _ = _ := y_d0 ⟨W, hb⟩
        replace d1 : W.cell? _ = _ := y_d1 ⟨W, hb⟩
        replace d2 : W.cell? _ = _ := y_d2 ⟨W, hb⟩
        replace d3 : W.cell? _ = _ := y_d3 ⟨W, hb⟩
        replace d4 : W.cell? _ = _ := y_d4 ⟨W, hb⟩
        replace d5 : W.cell? _ = _ := y_d5 ⟨W, hb⟩
        replace d6 : W.cell? _ = _ := y_d6 ⟨W, hb⟩
        replace d7 : W.cell? _ = _ := y_d7 ⟨W, hb⟩
        replace e0 : W.cell? _ = _ := y_e0 ⟨W, hb⟩
        replace e1 : W.cell? _ = _ := y_e1 ⟨W, hb⟩
        replace e2 : W.cell? _ = _ := y_e2 ⟨W, hb⟩
        replace e3 : W.cell? _ = _ := y_e3 ⟨W, hb⟩
        replace e4 : W.cell? _ = _ := y_e4 ⟨W, hb⟩
        replace e5 : W.cell? _ = _ := y_e5 ⟨W, hb⟩
        replace e6 : W.cell? _ = _ := y_e6 ⟨W, hb⟩
        replace e7 : W.cell? _ = _ := y_e7 ⟨W, hb⟩
        clear y_d0 y_d1 y_d2 y_d3 y_d4 y_d5 y_d6 y_d7 y_e0 y_e1 y_e2 y_e3 y_e4 y_e5 y_e6 y_e7
        replace hBl := hBl.trans (hb.mono hBl.size)
        clear hb
        go_wp2_with fail
        go_roundw
        case rel => exact ⟨i + 1, by go_num, by omega, hBl⟩
        case measure => simp [intOf]; omega
      · obtain rfl : i = ps.length := by omega
        go_wp2_with fail
        go_ret
        exact ⟨rfl, hBl⟩
  exact G w (Below.refl _ _)
set_option maxRecDepth 100000 in
set_option maxHeartbeats 4000000 in
theorem sameItem_yes (x : Sheet) (A : Option Addr) (cA : Nat) (B : Option Addr) (cB : Nat) (w : World) (hA : Slc Pt.enc 2 w w.heap.size A x.faults) (hB0 : Slc Pt.enc 2 w w.heap.size B x.faults) (hl : x.faults.length ≤ 100000) :
    Calls Try.prog 55 #[.agg #[.int .i64 x.id, .int .i64 x.root, .int .i64 x.grade, .int .i64 x.colour, .int .i64 x.lot, .int .i64 x.made, .int .i64 x.width, .int .i64 x.length, .slice A x.faults.length cA], .agg #[.int .i64 x.id, .int .i64 x.root, .int .i64 x.grade, .int .i64 x.colour, .int .i64 x.lot, .int .i64 x.made, .int .i64 x.width, .int .i64 x.length, .slice B x.faults.length cB]] w fun e w' => e = .returned (.bool true) ∧ Below w.heap.size w w' := by
  have hx := (Blk.new w 54 #[.int .i64 x.id, .int .i64 x.root, .int .i64 x.grade, .int .i64 x.colour, .int .i64 x.lot, .int .i64 x.made, .int .i64 x.width, .int .i64 x.length, .slice A x.faults.length cA]).alloc (.cells #[.int .i64 x.id, .int .i64 x.root, .int .i64 x.grade, .int .i64 x.colour, .int .i64 x.lot, .int .i64 x.made, .int .i64 x.width, .int .i64 x.length, .slice B x.faults.length cB] 54)
  have hy := Blk.new (w.alloc (.cells #[.int .i64 x.id, .int .i64 x.root, .int .i64 x.grade, .int .i64 x.colour, .int .i64 x.lot, .int .i64 x.made, .int .i64 x.width, .int .i64 x.length, .slice A x.faults.length cA] 54)) 54 #[.int .i64 x.id, .int .i64 x.root, .int .i64 x.grade, .int .i64 x.colour, .int .i64 x.lot, .int .i64 x.made, .int .i64 x.width, .int .i64 x.length, .slice B x.faults.length cB]
  have hB := ((Below.refl w.heap.size w).alloc (Nat.le_refl _) (.cells #[.int .i64 x.id, .int .i64 x.root, .int .i64 x.grade, .int .i64 x.colour, .int .i64 x.lot, .int .i64 x.made, .int .i64 x.width, .int .i64 x.length, .slice A x.faults.length cA] 54)).alloc (by simp) (.cells #[.int .i64 x.id, .int .i64 x.root, .int .i64 x.grade, .int .i64 x.colour, .int .i64 x.lot, .int .i64 x.made, .int .i64 x.width, .int .i64 x.length, .slice B x.faults.length cB] 54)
  rw [show (w.alloc (.cells #[.int .i64 x.id, .int .i64 x.root, .int .i64 x.grade, .int .i64 x.colour, .int .i64 x.lot, .int .i64 x.made, .int .i64 x.width, .int .i64 x.length, .slice A x.faults.length cA] 54)).heap.size = w.heap.size + 1 by simp] at hy
  have HA := hide hA
  have HB0 := hide hB0
  clear hA hB0
  go_enter Try.func55, Try.ntmps55
  go_upto_region 1 with fail
  generalize (w.alloc (.cells #[.int .i64 x.id, .int .i64 x.root, .int .i64 x.grade, .int .i64 x.colour, .int .i64 x.lot, .int .i64 x.made, .int .i64 x.width, .int .i64 x.length, .slice A x.faults.length cA] 54)).alloc (.cells #[.int .i64 x.id, .int .i64 x.root, .int .i64 x.grade, .int .i64 x.colour, .int .i64 x.lot, .int .i64 x.made, .int .i64 x.width, .int .i64 x.length, .slice B x.faults.length cB] 54) = W at *
  have q0 := hx.cell_ 0 rfl
  have q1 := hx.cell_ 1 rfl
  have q2 := hx.cell_ 2 rfl
  have q3 := hx.cell_ 3 rfl
  have q4 := hx.cell_ 4 rfl
  have q5 := hx.cell_ 5 rfl
  have q6 := hx.cell_ 6 rfl
  have q7 := hx.cell_ 7 rfl
  have q8 := hx.cell_ 8 (v := .slice A x.faults.length cA) rfl
  have k0 := hy.cell_ 0 rfl
  have k1 := hy.cell_ 1 rfl
  have k2 := hy.cell_ 2 rfl
  have k3 := hy.cell_ 3 rfl
  have k4 := hy.cell_ 4 rfl
  have k5 := hy.cell_ 5 rfl
  have k6 := hy.cell_ 6 rfl
  have k7 := hy.cell_ 7 rfl
  have k8 := hy.cell_ 8 (v := .slice B x.faults.length cB) rfl
  go_upto_region 4 with fail
  clear q0 q1 q2 q3 q4 q5 q6 q7 q8 k0 k1 k2 k3 k4 k5 k6 k7 k8
  go_loopw [5] (fun z wr => ∃ (i : Nat), z = .int .i64 i ∧ i ≤ x.faults.length ∧ Blk wr w.heap.size 54 #[.int .i64 x.id, .int .i64 x.root, .int .i64 x.grade, .int .i64 x.colour, .int .i64 x.lot, .int .i64 x.made, .int .i64 x.width, .int .i64 x.length, .slice A x.faults.length cA] ∧ Blk wr (w.heap.size + 1) 54 #[.int .i64 x.id, .int .i64 x.root, .int .i64 x.grade, .int .i64 x.colour, .int .i64 x.lot, .int .i64 x.made, .int .i64 x.width, .int .i64 x.length, .slice B x.faults.length cB] ∧ Below w.heap.size w wr) (fun z _ => x.faults.length - (intOf z).toNat)
  case atStart => exact ⟨0, rfl, Nat.zero_le _, hx, hy, hB⟩
  case round =>
    clear hx hy hB
    obtain ⟨W, rfl⟩ : ∃ X : World, X = wr := ⟨_, rfl⟩
    obtain ⟨i, rfl, hi, hx, hy, hBl⟩ := hrel
    have q8 := hx.cell_ 8 (v := .slice A x.faults.length cA) rfl
    have k8 := hy.cell_ 8 (v := .slice B x.faults.length cB) rfl
    by_cases hlt : i < x.faults.length
    · obtain ⟨xa, xb, b1, o1, hf, hA1, _, d0, d1⟩ := pts_at (HA.out.below hBl) hlt
      obtain ⟨ya, yb, b2, o2, hf2, hB1, _, e0, e1⟩ := pts_at (HB0.out.below hBl) hlt
      obtain ⟨rfl, rfl⟩ : xa = ya ∧ xb = yb := by rw [hf] at hf2; injection hf2 with hf2; injection hf2 with h1 h2; exact ⟨h1, h2⟩
      have hii : (i : Int) < (x.faults.length : Int) := by omega
      have ei : IntKind.i64.wrap ((i : Int) + 1) = ((i + 1 : Nat) : Int) := by rw [IntWalk.i64_in _ (by omega)]; push_cast; rfl
      have hnp := neq_span xa xb
      clear hf hf2
      subst hA1 hB1
      have HXX := hide hx
      have HYY := hide hy
      clear hx hy
      go_wp2_with fail
      refine wp_region_quiet (C := fun w' => ∃ u : Since W, w' = u.w) (by kernel_rfl) (by kernel_rfl) (Since.start W) ?_
      dsimp only
      have y_d0 := Since.cell d0
      have y_d1 := Since.cell d1
      have y_e0 := Since.cell e0
      have y_e1 := Since.cell e1
      have y_q8 := Since.cell q8
      have y_k8 := Since.cell k8
      repeat (go_big_quiet_step ((fail)))
      refine wpQuiet_nil ?_
      rintro W ⟨⟨_, hb⟩, rfl⟩
      try dsimp only at hb ⊢
      replace d0 : W.cell? _ = _ := y_d0 ⟨W, hb⟩
      replace d1 : W.cell? _ = _ := y_d1 ⟨W, hb⟩
      replace e0 : W.cell? _ = _ := y_e0 ⟨W, hb⟩
      replace e1 : W.cell? _ = _ := y_e1 ⟨W, hb⟩
      replace q8 : W.cell? _ = _ := y_q8 ⟨W, hb⟩
      replace k8 : W.cell? _ = _ := y_k8 ⟨W, hb⟩
      clear y_d0 y_d1 y_e0 y_e1 y_q8 y_k8
      replace hBl := Below.trans hBl (Below.mono hb (Below.size hBl))
      replace HXX := hide (Blk.below (Hid.out HXX) hb (Blk.lt (Hid.out HXX)))
      replace HYY := hide (Blk.below (Hid.out HYY) hb (Blk.lt (Hid.out HYY)))
      clear hb
      go_wp2_with fail
      clear q8 k8
      go_roundw
      case rel => exact ⟨i + 1, by go_num, by omega, HXX.out, HYY.out, hBl⟩
      case measure => simp [intOf]; omega
    · obtain rfl : i = x.faults.length := by omega
      go_wp2_with fail
      go_ret
      exact ⟨rfl, hBl⟩
set_option maxRecDepth 100000 in
set_option maxHeartbeats 2000000 in
theorem sameItems_yes (A : Option Addr) (cA : Nat) (B : Option Addr) (cB : Nat) (xs : List Sheet) (hs hs2 : List SH) (w : World) (hA : Slc SH.enc 9 w w.heap.size A hs) (hI : ShsIn w hs xs) (hB : Slc SH.enc 9 w w.heap.size B hs2) (hI2 : ShsIn w hs2 xs) (hl : xs.length ≤ 1000000) (hf : ∀ x ∈ xs, x.faults.length ≤ 100000) :
    Calls Try.prog 31 #[.slice A xs.length cA, .slice B xs.length cB] w fun e w' => e = .returned (.bool true) ∧ Below w.heap.size w w' := by
  have HF := hide hf
  clear hf
  have HI := hide hI
  have HI2 := hide hI2
  clear hI hI2
  have G : ∀ W, Below w.heap.size w W → Calls Try.prog 31 #[.slice A xs.length cA, .slice B xs.length cB] W fun e w' => e = .returned (.bool true) ∧ Below w.heap.size w w' := by
    intro W hBl
    go_enter Try.func31, Try.ntmps31
    go_wp2_with fail
    go_loopw [5] (fun y W => ∃ (i : Nat), y = .int .i64 i ∧ i ≤ xs.length ∧ Below w.heap.size w W) (fun y _ => xs.length - (intOf y).toNat)
    case atStart => exact ⟨0, rfl, Nat.zero_le _, hBl⟩
    case round =>
      clear hBl
      obtain ⟨W, rfl⟩ : ∃ W : World, W = wr := ⟨_, rfl⟩
      obtain ⟨i, rfl, hi, hBl⟩ := hrel
      by_cases hlt : i < xs.length
      · obtain ⟨x, hx⟩ : ∃ x, xs[i]? = some x := ⟨_, List.getElem?_eq_getElem hlt⟩
        obtain ⟨A1, c1, hh1, hv1⟩ := HI.out.at_ hx
        obtain ⟨A2, c2, hh2, hv2⟩ := HI2.out.at_ hx
        obtain ⟨b1, o1, hA1, _, d0, d1, d2, d3, d4, d5, d6, d7, d8⟩ := sh_at (hA.below hBl) hh1
        obtain ⟨b2, o2, hB1, _, e0, e1, e2, e3, e4, e5, e6, e7, e8⟩ := sh_at (hB.below hBl) hh2
        have hii : (i : Int) < (xs.length : Int) := by omega
        have ei : IntKind.i64.wrap ((i : Int) + 1) = ((i + 1 : Nat) : Int) := by rw [IntWalk.i64_in _ (by omega)]; push_cast; rfl
        have HFX : Hid (x.faults.length ≤ 100000) := HF.out x (List.mem_of_getElem? hx)
        have HS1 : Hid (Slc Pt.enc 2 W W.heap.size A1 x.faults) := Slc.on hv1.slc hBl
        have HS2 : Hid (Slc Pt.enc 2 W W.heap.size A2 x.faults) := Slc.on hv2.slc hBl
        clear hx hh1 hh2 hv1 hv2
        subst hA1 hB1
        go_wp2_with fail
        refine wp_region_quiet (C := fun w' => ∃ u : Since W, w' = u.w) (by kernel_rfl) (by kernel_rfl) (Since.start W) ?_
        dsimp only
        have y_d0 := Since.cell d0
        have y_d1 := Since.cell d1
        have y_d2 := Since.cell d2
        have y_d3 := Since.cell d3
        have y_d4 := Since.cell d4
        have y_d5 := Since.cell d5
        have y_d6 := Since.cell d6
        have y_d7 := Since.cell d7
        have y_d8 := Since.cell d8
        have y_e0 := Since.cell e0
        have y_e1 := Since.cell e1
        have y_e2 := Since.cell e2
        have y_e3 := Since.cell e3
        have y_e4 := Since.cell e4
        have y_e5 := Since.cell e5
        have y_e6 := Since.cell e6
        have y_e7 := Since.cell e7
        have y_e8 := Since.cell e8
        repeat (go_big_quiet_step ((go_at_call 55; exact Since.calls (sameItem_yes x A1 c1 A2 c2 _ (Slc.on HS1.out (Since.h _)) (Slc.on HS2.out (Since.h _)) HFX.out))))
        refine wpQuiet_nil ?_
        rintro W ⟨⟨_, hb⟩, rfl⟩
        try dsimp only at hb ⊢
        replace d0 : W.cell? _ = _ := y_d0 ⟨W, hb⟩
        replace d1 : W.cell? _ = _ := y_d1 ⟨W, hb⟩
        replace d2 : W.cell? _ = _ := y_d2 ⟨W, hb⟩
        replace d3 : W.cell? _ = _ := y_d3 ⟨W, hb⟩
        replace d4 : W.cell? _ = _ := y_d4 ⟨W, hb⟩
        replace d5 : W.cell? _ = _ := y_d5 ⟨W, hb⟩
        replace d6 : W.cell? _ = _ := y_d6 ⟨W, hb⟩
        replace d7 : W.cell? _ = _ := y_d7 ⟨W, hb⟩
        replace d8 : W.cell? _ = _ := y_d8 ⟨W, hb⟩
        replace e0 : W.cell? _ = _ := y_e0 ⟨W, hb⟩
        replace e1 : W.cell? _ = _ := y_e1 ⟨W, hb⟩
        replace e2 : W.cell? _ = _ := y_e2 ⟨W, hb⟩
        replace e3 : W.cell? _ = _ := y_e3 ⟨W, hb⟩
        replace e4 : W.cell? _ = _ := y_e4 ⟨W, hb⟩
        replace e5 : W.cell? _ = _ := y_e5 ⟨W, hb⟩
        replace e6 : W.cell? _ = _ := y_e6 ⟨W, hb⟩
        replace e7 : W.cell? _ = _ := y_e7 ⟨W, hb⟩
        replace e8 : W.cell? _ = _ := y_e8 ⟨W, hb⟩
        clear y_d0 y_d1 y_d2 y_d3 y_d4 y_d5 y_d6 y_d7 y_d8 y_e0 y_e1 y_e2 y_e3 y_e4 y_e5 y_e6 y_e7 y_e8
        replace hBl := hBl.trans (hb.mono hBl.size)
        clear hb
        go_wp2_with fail
        go_roundw
        case rel => exact ⟨i + 1, by go_num, by omega, hBl⟩
        case measure => simp [intOf]; omega
      · obtain rfl : i = xs.length := by omega
        go_wp2_with fail
        go_ret
        exact ⟨rfl, hBl⟩
  exact G w (Below.refl _ _)
end Go.Proofs.Ytnejacogflkmmaa
