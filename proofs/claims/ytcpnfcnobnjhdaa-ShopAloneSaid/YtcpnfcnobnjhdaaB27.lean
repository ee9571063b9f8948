/- Parts of the proofs of this seat: Desk. Each part says what it proves; no condition beyond those stated there. -/
import Derived.Test.YtcpnfcnobnjhdaaB15

/- The desk of package shop: the walks of earliest and put. -/
namespace Go.Proofs.Ytcpnfcnobnjhdaa
open Go.RowKit
def zeroAt : At := ⟨0, 0, 0, ⟨0, 0, 0, 0⟩⟩
set_option maxRecDepth 100000 in
set_option maxHeartbeats 2000000 in
theorem earliest_any (B g mb bo bp : Nat) (brs : List Nat) (s : Sh) (D : Desk) (j : Nat) (x : Step) (t : Int) (w : World) (hS : ShAt w w.heap.size s) (hv : VShop s.p) (hD : DeskAt B w g mb bo bp brs s D)
    (hj : D.on[j]? = some t) (ht0 : 0 ≤ t) (ht1 : t ≤ 1000000000) (hfit : ∀ b, look D.last x.m = some b → AtFit s.p b) (x1 : 1 ≤ x.mi) (x2 : x.mi ≤ s.p.cl - s.p.op) :
    Calls Try.prog 61 #[.pointer (some ⟨g, 0, none⟩), .int .i64 j, .agg #[.int .i64 x.m, .int .i64 x.mi, .int .i64 x.c, .int .i64 x.d]] w fun e w' => e = .returned (.int .i64 (earlF s.p D j x)) ∧ Below w.heap.size w w' := by
  have hjl : (j : Int) < (D.on.length : Int) := by have := (List.getElem?_eq_some_iff.1 hj).1; omega
  have hz : ∀ w, (zeroValue 91).run Try.prog w = .ok (.agg #[.int .i64 0, .int .i64 0, .int .i64 0, .int .i64 0, .int .i64 0, .int .i64 0, .int .i64 0]) w := fun _ => by kernel_rfl
  have HJ := hide hj
  have hget : D.on.getD j 0 = t := by rw [List.getD_eq_getElem?_getD, hj]; rfl
  have HE : Hid (earlF s.p D j x = nextF s.p (match look D.last x.m with | some b => max t (roomF s.p b x.c) | none => t) x.mi) := by show _ = _; unfold earlF; rw [hget]; rfl
  have HZ := hide hz
  have HF := hide hfit
  clear hj hget hz hfit
  have hk := Blk.new w 69 #[.int .i64 x.m, .int .i64 x.mi, .int .i64 x.c, .int .i64 x.d]
  have hB := (Below.refl w.heap.size w).alloc (Nat.le_refl _) (.cells #[.int .i64 x.m, .int .i64 x.mi, .int .i64 x.c, .int .i64 x.d] 69)
  replace hD := hD.alloc (.cells #[.int .i64 x.m, .int .i64 x.mi, .int .i64 x.c, .int .i64 x.d] 69)
  have b2 := hD.on.cell_ j (ints_get HJ.out)
  have g2 := hD.blk.cell_ 7 rfl
  go_enter Try.func61, Try.ntmps61
  go_wp2_with fail
  clear b2 g2
  generalize w.alloc (.cells #[.int .i64 x.m, .int .i64 x.mi, .int .i64 x.c, .int .i64 x.d] 69) = W at *
  have g6 := hD.blk.cell_ 6 rfl
  have x0 := hk.cell_ 0 rfl
  have x1 := hk.cell_ 1 rfl
  have x2 := hk.cell_ 2 rfl
  have x3 := hk.cell_ 3 rfl
  cases hl : look D.last x.m with
  | none =>
    have HL : Hid (∀ w', Below W.heap.size W w' → (Instr.lookup 81 (.map (some mb)) (.int .i64 x.m) true).run Try.prog w' = .ok (.tuple #[.agg #[.int .i64 0, .int .i64 0, .int .i64 0, .int .i64 0, .int .i64 0, .int .i64 0, .int .i64 0], .bool false]) w') := fun w' hb =>
      (hD.below hb).map.look_no Try.underlying81 Try.underlying3 HZ.out (by rw [look_kvA, hl]; rfl) true
    have HE2 : Hid (earlF s.p D j x = nextF s.p t x.mi) := by show _ = _; rw [HE.out, hl]
    clear hl
    go_wp2_with fail
    have z_x0 := hide (fun w' (hb : Below W.heap.size W w') => Since.later hb x0)
    have z_x1 := hide (fun w' (hb : Below W.heap.size W w') => Since.later hb x1)
    have z_x2 := hide (fun w' (hb : Below W.heap.size W w') => Since.later hb x2)
    have z_x3 := hide (fun w' (hb : Below W.heap.size W w') => Since.later hb x3)
    have z_g6 := hide (fun w' (hb : Below W.heap.size W w') => Since.later hb g6)
    have hok : FldOk W ([⟨10, .ptr, (.cells #[.int .i64 0, .int .i64 0, .int .i64 0, .int .i64 0, .int .i64 0, .int .i64 0, .int .i64 0] 91), 11, (.cells #[.int .i64 0, .int .i64 0, .int .i64 0, .int .i64 0, .int .i64 0, .int .i64 0, .int .i64 0] 91)⟩]) [] := FldOk.nil_
    refine wp_region_both 12 [0, 1, 2, 3, 4, 5, 6, 7, 8, 9] [10, 11] [⟨10, .ptr, (.cells #[.int .i64 0, .int .i64 0, .int .i64 0, .int .i64 0, .int .i64 0, .int .i64 0, .int .i64 0] 91), 11, (.cells #[.int .i64 0, .int .i64 0, .int .i64 0, .int .i64 0, .int .i64 0, .int .i64 0, .int .i64 0] 91)⟩] [] (fun f hf => by cases hf) (by kernel_rfl) (by kernel_rfl) (by kernel_rfl) (by kernel_rfl) (by kernel_rfl) (by simp) ?_
    apply Exists.intro
    refine ⟨fun W1 hc0 => ?_, ?_⟩
    · have hb := hc0.nil_
      have y_x0 := Since.cell (z_x0.out W1 hb)
      have y_x1 := Since.cell (z_x1.out W1 hb)
      have y_x2 := Since.cell (z_x2.out W1 hb)
      have y_x3 := Since.cell (z_x3.out W1 hb)
      have y_g6 := Since.cell (z_g6.out W1 hb)
      have y_HL := fun u : Since W1 => HL.out u.w (hb.trans (u.h.mono hb.size))
      replace hk := hk.below hb hk.lt
      replace hD := hD.below hb
      replace hB := hB.trans (hb.mono hB.size)
      dsimp only [pick, List.filterMap, List.getElem?_cons_succ, List.getElem?_cons_zero]
      repeat (go_big_quiet_step ((fail)))
      exact wpQuiet_nil rfl
    · refine ownWalk_alloc ⟨10, .ptr, (.cells #[.int .i64 0, .int .i64 0, .int .i64 0, .int .i64 0, .int .i64 0, .int .i64 0, .int .i64 0] 91), 11, (.cells #[.int .i64 0, .int .i64 0, .int .i64 0, .int .i64 0, .int .i64 0, .int .i64 0, .int .i64 0] 91)⟩ hok (by kernel_rfl) rfl rfl rfl rfl (fun _ => rfl) (by simp) (by simp) (fun h => absurd h (by simp)) ?_
      intro gxb
      simp only [Shape.val, List.setIfInBounds_toArray, List.set_cons_succ, List.set_cons_zero]
      refine ownWalk_fill (cs := #[.int .i64 0, .int .i64 0, .int .i64 0, .int .i64 0, .int .i64 0, .int .i64 0, .int .i64 0]) (cs' := #[.int .i64 0, .int .i64 0, .int .i64 0, .int .i64 0, .int .i64 0, .int .i64 0, .int .i64 0]) ⟨10, .ptr, (.cells #[.int .i64 0, .int .i64 0, .int .i64 0, .int .i64 0, .int .i64 0, .int .i64 0, .int .i64 0] 91), 11, (.cells #[.int .i64 0, .int .i64 0, .int .i64 0, .int .i64 0, .int .i64 0, .int .i64 0, .int .i64 0] 91)⟩ hok (by kernel_rfl) rfl rfl rfl rfl rfl rfl rfl rfl (by kernel_rfl) rfl (by simp [Value.oneCell']) rfl rfl (by simp) (by simp) (by simp) rfl ?_ (by simp)
      refine ownWalk_nil ?_
      intro w' hc0 hD
      have hb := hc0.nil_
      obtain ⟨gxge, gx⟩ := hD.box.get (x := ⟨10, .ptr, (.cells #[.int .i64 0, .int .i64 0, .int .i64 0, .int .i64 0, .int .i64 0, .int .i64 0, .int .i64 0] 91), 11, (.cells #[.int .i64 0, .int .i64 0, .int .i64 0, .int .i64 0, .int .i64 0, .int .i64 0, .int .i64 0] 91)⟩) (o := (.cells #[.int .i64 0, .int .i64 0, .int .i64 0, .int .i64 0, .int .i64 0, .int .i64 0, .int .i64 0] 91)) (by simp) rfl rfl
      replace gx : Blk _ _ _ _ := gx
      clear hD
      try simp only [List.drop_succ_cons, List.drop_zero]
      replace g6 : w'.cell? _ = _ := z_g6.out w' hb
      clear z_x0 z_x1 z_x2 z_x3 z_g6
      have hWge := hB.size
      clear x0 x1 x2 x3
      replace hk := hk.below hb hk.lt
      replace hD := hD.below hb
      replace hB := hB.trans (hb.mono hB.size)
      clear hb hok hc0
      obtain ⟨W, rfl⟩ : ∃ W : World, W = w' := ⟨_, rfl⟩
      have x0 := hk.cell_ 0 rfl
      have x1 := hk.cell_ 1 rfl
      have x2 := hk.cell_ 2 rfl
      have x3 := hk.cell_ 3 rfl
      have a0 := gx.cell_ 0 rfl
      have a1 := gx.cell_ 1 rfl
      have a2 := gx.cell_ 2 rfl
      have a3 := gx.cell_ 3 rfl
      have a4 := gx.cell_ 4 rfl
      have a5 := gx.cell_ 5 rfl
      have a6 := gx.cell_ 6 rfl
      have g0 := hD.blk.cell_ 0 rfl
      have g1 := hD.blk.cell_ 1 rfl
      have g2 := hD.blk.cell_ 2 rfl
      have g3 := hD.blk.cell_ 3 rfl
      have g4 := hD.blk.cell_ 4 rfl
      have g5 := hD.blk.cell_ 5 rfl
      have HSW := hS.on hB
      go_wp2_with fail
      refine wp_region_quiet (C := fun w' => ∃ u : Since W, w' = u.w) (by kernel_rfl) (by kernel_rfl) (Since.start W) ?_
      dsimp only
      have y_x0 := Since.cell x0
      have y_x1 := Since.cell x1
      have y_x2 := Since.cell x2
      have y_x3 := Since.cell x3
      have y_a0 := Since.cell a0
      have y_a1 := Since.cell a1
      have y_a2 := Since.cell a2
      have y_a3 := Since.cell a3
      have y_a4 := Since.cell a4
      have y_a5 := Since.cell a5
      have y_a6 := Since.cell a6
      have y_g0 := Since.cell g0
      have y_g1 := Since.cell g1
      have y_g2 := Since.cell g2
      have y_g3 := Since.cell g3
      have y_g4 := Since.cell g4
      have y_g5 := Since.cell g5
      clear x0 x1 x2 x3 a0 a1 a2 a3 a4 a5 a6
      repeat (go_big_quiet_step ((go_at_call 51; exact Since.calls (next_any s t x.mi _ (HSW.on (Since.h _)) hv ht0 (by omega) x1 x2))))
      refine wpQuiet_nil ?_
      rintro W ⟨⟨_, hb⟩, rfl⟩
      try dsimp only at hb ⊢
      replace g0 : W.cell? _ = _ := y_g0 ⟨W, hb⟩
      replace g1 : W.cell? _ = _ := y_g1 ⟨W, hb⟩
      replace g2 : W.cell? _ = _ := y_g2 ⟨W, hb⟩
      replace g3 : W.cell? _ = _ := y_g3 ⟨W, hb⟩
      replace g4 : W.cell? _ = _ := y_g4 ⟨W, hb⟩
      replace g5 : W.cell? _ = _ := y_g5 ⟨W, hb⟩
      clear y_x0 y_x1 y_x2 y_x3 y_a0 y_a1 y_a2 y_a3 y_a4 y_a5 y_a6 y_g0 y_g1 y_g2 y_g3 y_g4 y_g5
      replace hk := hk.below hb hk.lt
      replace hD := hD.below hb
      replace gx := gx.below hb gx.lt
      replace hB := hB.trans (hb.mono hB.size)
      clear hb
      have x0 := hk.cell_ 0 rfl
      have x1 := hk.cell_ 1 rfl
      have x2 := hk.cell_ 2 rfl
      have x3 := hk.cell_ 3 rfl
      have a0 := gx.cell_ 0 rfl
      have a1 := gx.cell_ 1 rfl
      have a2 := gx.cell_ 2 rfl
      have a3 := gx.cell_ 3 rfl
      have a4 := gx.cell_ 4 rfl
      have a5 := gx.cell_ 5 rfl
      have a6 := gx.cell_ 6 rfl
      go_wp2_with fail
      go_ret
      exact ⟨ret_int HE2.out.symm, hB⟩
  | some b =>
    have HL : Hid (∀ w', Below W.heap.size W w' → (Instr.lookup 81 (.map (some mb)) (.int .i64 x.m) true).run Try.prog w' = .ok (.tuple #[.agg #[.int .i64 b.j, .int .i64 b.k, .int .i64 b.t, .int .i64 b.x.m, .int .i64 b.x.mi, .int .i64 b.x.c, .int .i64 b.x.d], .bool true]) w') := fun w' hb =>
      (hD.below hb).map.look_yes Try.underlying81 Try.underlying3 (by rw [look_kvA, hl]; rfl) true
    have HE2 : Hid (earlF s.p D j x = nextF s.p (max t (roomF s.p b x.c)) x.mi) := by show _ = _; rw [HE.out, hl]
    have hfb := HF.out b hl
    clear hl
    obtain ⟨r0, r1⟩ := room_bd' hv hfb (c := x.c)
    go_wp2_with fail
    have z_x0 := hide (fun w' (hb : Below W.heap.size W w') => Since.later hb x0)
    have z_x1 := hide (fun w' (hb : Below W.heap.size W w') => Since.later hb x1)
    have z_x2 := hide (fun w' (hb : Below W.heap.size W w') => Since.later hb x2)
    have z_x3 := hide (fun w' (hb : Below W.heap.size W w') => Since.later hb x3)
    have z_g6 := hide (fun w' (hb : Below W.heap.size W w') => Since.later hb g6)
    have hok : FldOk W ([⟨10, .ptr, (.cells #[.int .i64 0, .int .i64 0, .int .i64 0, .int .i64 0, .int .i64 0, .int .i64 0, .int .i64 0] 91), 11, (.cells #[.int .i64 b.j, .int .i64 b.k, .int .i64 b.t, .int .i64 b.x.m, .int .i64 b.x.mi, .int .i64 b.x.c, .int .i64 b.x.d] 91)⟩]) [] := FldOk.nil_
    refine wp_region_both 12 [0, 1, 2, 3, 4, 5, 6, 7, 8, 9] [10, 11] [⟨10, .ptr, (.cells #[.int .i64 0, .int .i64 0, .int .i64 0, .int .i64 0, .int .i64 0, .int .i64 0, .int .i64 0] 91), 11, (.cells #[.int .i64 b.j, .int .i64 b.k, .int .i64 b.t, .int .i64 b.x.m, .int .i64 b.x.mi, .int .i64 b.x.c, .int .i64 b.x.d] 91)⟩] [] (fun f hf => by cases hf) (by kernel_rfl) (by kernel_rfl) (by kernel_rfl) (by kernel_rfl) (by kernel_rfl) (by simp) ?_
    apply Exists.intro
    refine ⟨fun W1 hc0 => ?_, ?_⟩
    · have hb := hc0.nil_
      have y_x0 := Since.cell (z_x0.out W1 hb)
      have y_x1 := Since.cell (z_x1.out W1 hb)
      have y_x2 := Since.cell (z_x2.out W1 hb)
      have y_x3 := Since.cell (z_x3.out W1 hb)
      have y_g6 := Since.cell (z_g6.out W1 hb)
      have y_HL := fun u : Since W1 => HL.out u.w (hb.trans (u.h.mono hb.size))
      replace hk := hk.below hb hk.lt
      replace hD := hD.below hb
      replace hB := hB.trans (hb.mono hB.size)
      dsimp only [pick, List.filterMap, List.getElem?_cons_succ, List.getElem?_cons_zero]
      repeat (go_big_quiet_step ((fail)))
      exact wpQuiet_nil rfl
    · refine ownWalk_alloc ⟨10, .ptr, (.cells #[.int .i64 0, .int .i64 0, .int .i64 0, .int .i64 0, .int .i64 0, .int .i64 0, .int .i64 0] 91), 11, (.cells #[.int .i64 b.j, .int .i64 b.k, .int .i64 b.t, .int .i64 b.x.m, .int .i64 b.x.mi, .int .i64 b.x.c, .int .i64 b.x.d] 91)⟩ hok (by kernel_rfl) rfl rfl rfl rfl (fun _ => rfl) (by simp) (by simp) (fun h => absurd h (by simp)) ?_
      intro gxb
      simp only [Shape.val, List.setIfInBounds_toArray, List.set_cons_succ, List.set_cons_zero]
      refine ownWalk_fill (cs := #[.int .i64 0, .int .i64 0, .int .i64 0, .int .i64 0, .int .i64 0, .int .i64 0, .int .i64 0]) (cs' := #[.int .i64 b.j, .int .i64 b.k, .int .i64 b.t, .int .i64 b.x.m, .int .i64 b.x.mi, .int .i64 b.x.c, .int .i64 b.x.d]) ⟨10, .ptr, (.cells #[.int .i64 0, .int .i64 0, .int .i64 0, .int .i64 0, .int .i64 0, .int .i64 0, .int .i64 0] 91), 11, (.cells #[.int .i64 b.j, .int .i64 b.k, .int .i64 b.t, .int .i64 b.x.m, .int .i64 b.x.mi, .int .i64 b.x.c, .int .i64 b.x.d] 91)⟩ hok (by kernel_rfl) rfl rfl rfl rfl rfl rfl rfl rfl (by kernel_rfl) rfl (by simp [Value.oneCell']) rfl rfl (by simp) (by simp) (by simp) rfl ?_ (by simp)
      refine ownWalk_nil ?_
      intro w' hc0 hD
      have hb := hc0.nil_
      obtain ⟨gxge, gx⟩ := hD.box.get (x := ⟨10, .ptr, (.cells #[.int .i64 0, .int .i64 0, .int .i64 0, .int .i64 0, .int .i64 0, .int .i64 0, .int .i64 0] 91), 11, (.cells #[.int .i64 b.j, .int .i64 b.k, .int .i64 b.t, .int .i64 b.x.m, .int .i64 b.x.mi, .int .i64 b.x.c, .int .i64 b.x.d] 91)⟩) (o := (.cells #[.int .i64 b.j, .int .i64 b.k, .int .i64 b.t, .int .i64 b.x.m, .int .i64 b.x.mi, .int .i64 b.x.c, .int .i64 b.x.d] 91)) (by simp) rfl rfl
      replace gx : Blk _ _ _ _ := gx
      clear hD
      try simp only [List.drop_succ_cons, List.drop_zero]
      replace g6 : w'.cell? _ = _ := z_g6.out w' hb
      clear z_x0 z_x1 z_x2 z_x3 z_g6
      have hWge := hB.size
      clear x0 x1 x2 x3
      replace hk := hk.below hb hk.lt
      replace hD := hD.below hb
      replace hB := hB.trans (hb.mono hB.size)
      clear hb hok hc0
      obtain ⟨W, rfl⟩ : ∃ W : World, W = w' := ⟨_, rfl⟩
      have x0 := hk.cell_ 0 rfl
      have x1 := hk.cell_ 1 rfl
      have x2 := hk.cell_ 2 rfl
      have x3 := hk.cell_ 3 rfl
      have a0 := gx.cell_ 0 rfl
      have a1 := gx.cell_ 1 rfl
      have a2 := gx.cell_ 2 rfl
      have a3 := gx.cell_ 3 rfl
      have a4 := gx.cell_ 4 rfl
      have a5 := gx.cell_ 5 rfl
      have a6 := gx.cell_ 6 rfl
      have g0 := hD.blk.cell_ 0 rfl
      have g1 := hD.blk.cell_ 1 rfl
      have g2 := hD.blk.cell_ 2 rfl
      have g3 := hD.blk.cell_ 3 rfl
      have g4 := hD.blk.cell_ 4 rfl
      have g5 := hD.blk.cell_ 5 rfl
      have HSW := hS.on hB
      go_wp2_with fail
      refine wp_region_quiet (C := fun w' => ∃ u : Since W, w' = u.w) (by kernel_rfl) (by kernel_rfl) (Since.start W) ?_
      dsimp only
      have y_x0 := Since.cell x0
      have y_x1 := Since.cell x1
      have y_x2 := Since.cell x2
      have y_x3 := Since.cell x3
      have y_a0 := Since.cell a0
      have y_a1 := Since.cell a1
      have y_a2 := Since.cell a2
      have y_a3 := Since.cell a3
      have y_a4 := Since.cell a4
      have y_a5 := Since.cell a5
      have y_a6 := Since.cell a6
      have y_g0 := Since.cell g0
      have y_g1 := Since.cell g1
      have y_g2 := Since.cell g2
      have y_g3 := Since.cell g3
      have y_g4 := Since.cell g4
      have y_g5 := Since.cell g5
      clear x0 x1 x2 x3 a0 a1 a2 a3 a4 a5 a6
      repeat (go_big_quiet_step ((go_at_call 77; exact Since.calls (room_any s b x.c _ (HSW.on (Since.h _)) hv hfb))))
      refine wpQuiet_nil ?_
      rintro W ⟨⟨_, hb⟩, rfl⟩
      try dsimp only at hb ⊢
      replace g0 : W.cell? _ = _ := y_g0 ⟨W, hb⟩
      replace g1 : W.cell? _ = _ := y_g1 ⟨W, hb⟩
      replace g2 : W.cell? _ = _ := y_g2 ⟨W, hb⟩
      replace g3 : W.cell? _ = _ := y_g3 ⟨W, hb⟩
      replace g4 : W.cell? _ = _ := y_g4 ⟨W, hb⟩
      replace g5 : W.cell? _ = _ := y_g5 ⟨W, hb⟩
      clear y_x0 y_x1 y_x2 y_x3 y_a0 y_a1 y_a2 y_a3 y_a4 y_a5 y_a6 y_g0 y_g1 y_g2 y_g3 y_g4 y_g5
      replace hk := hk.below hb hk.lt
      replace hD := hD.below hb
      replace gx := gx.below hb gx.lt
      replace hB := hB.trans (hb.mono hB.size)
      clear hb
      have x0 := hk.cell_ 0 rfl
      have x1 := hk.cell_ 1 rfl
      have x2 := hk.cell_ 2 rfl
      have x3 := hk.cell_ 3 rfl
      have a0 := gx.cell_ 0 rfl
      have a1 := gx.cell_ 1 rfl
      have a2 := gx.cell_ 2 rfl
      have a3 := gx.cell_ 3 rfl
      have a4 := gx.cell_ 4 rfl
      have a5 := gx.cell_ 5 rfl
      have a6 := gx.cell_ 6 rfl
      by_cases hmx : t < roomF s.p b x.c
      · have hmx1 : decide (t < roomF s.p b x.c) = true := decide_eq_true hmx
        have hmx2 : t ≤ roomF s.p b x.c := by omega
        have HE3 : Hid (earlF s.p D j x = nextF s.p (roomF s.p b x.c) x.mi) := by show _ = _; rw [HE2.out, Int.max_eq_right hmx2]
        go_wp2_with fail
        have HSW2 := hS.on hB
        go_wp2_with fail
        refine wp_region_quiet (C := fun w' => ∃ u : Since W, w' = u.w) (by kernel_rfl) (by kernel_rfl) (Since.start W) ?_
        dsimp only
        have y_x0 := Since.cell x0
        have y_x1 := Since.cell x1
        have y_x2 := Since.cell x2
        have y_x3 := Since.cell x3
        have y_a0 := Since.cell a0
        have y_a1 := Since.cell a1
        have y_a2 := Since.cell a2
        have y_a3 := Since.cell a3
        have y_a4 := Since.cell a4
        have y_a5 := Since.cell a5
        have y_a6 := Since.cell a6
        have y_g0 := Since.cell g0
        have y_g1 := Since.cell g1
        have y_g2 := Since.cell g2
        have y_g3 := Since.cell g3
        have y_g4 := Since.cell g4
        have y_g5 := Since.cell g5
        clear x0 x1 x2 x3 a0 a1 a2 a3 a4 a5 a6
        repeat (go_big_quiet_step ((go_at_call 51; exact Since.calls (next_any s (roomF s.p b x.c) x.mi _ (HSW2.on (Since.h _)) hv (by omega) (by omega) x1 x2))))
        refine wpQuiet_nil ?_
        rintro W ⟨⟨_, hb⟩, rfl⟩
        try dsimp only at hb ⊢
        replace g0 : W.cell? _ = _ := y_g0 ⟨W, hb⟩
        replace g1 : W.cell? _ = _ := y_g1 ⟨W, hb⟩
        replace g2 : W.cell? _ = _ := y_g2 ⟨W, hb⟩
        replace g3 : W.cell? _ = _ := y_g3 ⟨W, hb⟩
        replace g4 : W.cell? _ = _ := y_g4 ⟨W, hb⟩
        replace g5 : W.cell? _ = _ := y_g5 ⟨W, hb⟩
        clear y_x0 y_x1 y_x2 y_x3 y_a0 y_a1 y_a2 y_a3 y_a4 y_a5 y_a6 y_g0 y_g1 y_g2 y_g3 y_g4 y_g5
        replace hk := hk.below hb hk.lt
        replace hD := hD.below hb
        replace gx := gx.below hb gx.lt
        replace hB := hB.trans (hb.mono hB.size)
        clear hb
        have x0 := hk.cell_ 0 rfl
        have x1 := hk.cell_ 1 rfl
        have x2 := hk.cell_ 2 rfl
        have x3 := hk.cell_ 3 rfl
        have a0 := gx.cell_ 0 rfl
        have a1 := gx.cell_ 1 rfl
        have a2 := gx.cell_ 2 rfl
        have a3 := gx.cell_ 3 rfl
        have a4 := gx.cell_ 4 rfl
        have a5 := gx.cell_ 5 rfl
        have a6 := gx.cell_ 6 rfl
        go_wp2_with fail
        go_ret
        exact ⟨ret_int HE3.out.symm, hB⟩
      · have hmx1 : decide (t < roomF s.p b x.c) = false := decide_eq_false hmx
        have hmx2 : roomF s.p b x.c ≤ t := by omega
        have HE3 : Hid (earlF s.p D j x = nextF s.p t x.mi) := by show _ = _; rw [HE2.out, Int.max_eq_left hmx2]
        go_wp2_with fail
        have HSW2 := hS.on hB
        go_wp2_with fail
        refine wp_region_quiet (C := fun w' => ∃ u : Since W, w' = u.w) (by kernel_rfl) (by kernel_rfl) (Since.start W) ?_
        dsimp only
        have y_x0 := Since.cell x0
        have y_x1 := Since.cell x1
        have y_x2 := Since.cell x2
        have y_x3 := Since.cell x3
        have y_a0 := Since.cell a0
        have y_a1 := Since.cell a1
        have y_a2 := Since.cell a2
        have y_a3 := Since.cell a3
        have y_a4 := Since.cell a4
        have y_a5 := Since.cell a5
        have y_a6 := Since.cell a6
        have y_g0 := Since.cell g0
        have y_g1 := Since.cell g1
        have y_g2 := Since.cell g2
        have y_g3 := Since.cell g3
        have y_g4 := Since.cell g4
        have y_g5 := Since.cell g5
        clear x0 x1 x2 x3 a0 a1 a2 a3 a4 a5 a6
        repeat (go_big_quiet_step ((go_at_call 51; exact Since.calls (next_any s t x.mi _ (HSW2.on (Since.h _)) hv (by omega) (by omega) x1 x2))))
        refine wpQuiet_nil ?_
        rintro W ⟨⟨_, hb⟩, rfl⟩
        try dsimp only at hb ⊢
        replace g0 : W.cell? _ = _ := y_g0 ⟨W, hb⟩
        replace g1 : W.cell? _ = _ := y_g1 ⟨W, hb⟩
        replace g2 : W.cell? _ = _ := y_g2 ⟨W, hb⟩
        replace g3 : W.cell? _ = _ := y_g3 ⟨W, hb⟩
        replace g4 : W.cell? _ = _ := y_g4 ⟨W, hb⟩
        replace g5 : W.cell? _ = _ := y_g5 ⟨W, hb⟩
        clear y_x0 y_x1 y_x2 y_x3 y_a0 y_a1 y_a2 y_a3 y_a4 y_a5 y_a6 y_g0 y_g1 y_g2 y_g3 y_g4 y_g5
        replace hk := hk.below hb hk.lt
        replace hD := hD.below hb
        replace gx := gx.below hb gx.lt
        replace hB := hB.trans (hb.mono hB.size)
        clear hb
        have x0 := hk.cell_ 0 rfl
        have x1 := hk.cell_ 1 rfl
        have x2 := hk.cell_ 2 rfl
        have x3 := hk.cell_ 3 rfl
        have a0 := gx.cell_ 0 rfl
        have a1 := gx.cell_ 1 rfl
        have a2 := gx.cell_ 2 rfl
        have a3 := gx.cell_ 3 rfl
        have a4 := gx.cell_ 4 rfl
        have a5 := gx.cell_ 5 rfl
        have a6 := gx.cell_ 6 rfl
        go_wp2_with fail
        go_ret
        exact ⟨ret_int HE3.out.symm, hB⟩
theorem earliest_is (B g mb bo bp : Nat) (brs : List Nat) (s : Sh) (D : Desk) (j : Nat) (x : Step) (t v : Int) (w : World) (hS : ShAt w w.heap.size s) (hv : VShop s.p) (hD : DeskAt B w g mb bo bp brs s D)
    (hj : D.on[j]? = some t) (ht0 : 0 ≤ t) (ht1 : t ≤ 1000000000) (hfit : ∀ b, look D.last x.m = some b → AtFit s.p b) (x1 : 1 ≤ x.mi) (x2 : x.mi ≤ s.p.cl - s.p.op) (h : earlF s.p D j x = v) :
    Calls Try.prog 61 #[.pointer (some ⟨g, 0, none⟩), .int .i64 j, .agg #[.int .i64 x.m, .int .i64 x.mi, .int .i64 x.c, .int .i64 x.d]] w fun e w' => e = .returned (.int .i64 v) ∧ Below w.heap.size w w' := by
  rw [← h]; exact earliest_any B g mb bo bp brs s D j x t w hS hv hD hj ht0 ht1 hfit x1 x2
def PutPost (B g mb bo bp : Nat) (brs : List Nat) (s : Sh) (D : Desk) (w : World) (e : Ending) (w' : World) : Prop := e = .returned (.tuple #[]) ∧ DeskAt B w' g mb bo bp brs s D ∧ Chg (OfDesk mb bo brs) w w'
set_option maxRecDepth 100000 in
set_option maxHeartbeats 2000000 in
theorem put_any (B g mb bo bp : Nat) (brs : List Nat) (s : Sh) (D : Desk) (j k : Nat) (t : Int) (st : List Step) (x : Step) (l : List Int) (w : World) (hS : ShAt w w.heap.size s) (hD : DeskAt B w g mb bo bp brs s D)
    (hj : s.p.jobs[j]? = some st) (hx : st[k]? = some x) (hl : D.plan[j]? = some l) (hk : k < l.length) (hon : j < D.on.length) (ht0 : 0 ≤ t) (ht1 : t ≤ 1000000000) (hf : AtFit s.p ⟨j, k, t, x⟩) (hb1 : s.p.jobs.length ≤ 1000) (hb2 : st.length ≤ 1000) :
    Calls Try.prog 62 #[.pointer (some ⟨g, 0, none⟩), .int .i64 j, .int .i64 k, .int .i64 t] w (PutPost B g mb bo bp brs s (D.put ⟨j, k, t, x⟩) w) := by
  obtain ⟨b, off, A', c', hA, hb, hc, hSl⟩ := job_at hS.jobs hj
  obtain ⟨b2, off2, hA2, hb2', d0, d1, d2, d3⟩ := hSl.at4_ hx
  have i1 : (j : Int) < (s.p.jobs.length : Int) := by have := (List.getElem?_eq_some_iff.1 hj).1; omega
  have i2 : (k : Int) < (st.length : Int) := by have := (List.getElem?_eq_some_iff.1 hx).1; omega
  obtain ⟨br, hbr, hrow, hcell, hbrB⟩ := hD.row hl
  have i3 : (j : Int) < (D.plan.length : Int) := by have := (List.getElem?_eq_some_iff.1 hl).1; omega
  have i4 : (k : Int) < (l.length : Int) := by omega
  have i5 : (j : Int) < (D.on.length : Int) := by omega
  obtain ⟨_, _, f1, f2, f3, f4, f5, f6⟩ := hf
  dsimp only at f1 f2 f3 f4 f5 f6
  have HJ := hide (And.intro hj (And.intro hx (And.intro hl (And.intro hbr (And.intro hrow hcell)))))
  clear hj hx hl hbr hrow hcell
  subst hA2
  have HA := hide hA
  clear hA
  have hka := Blk.new w 91 #[.int .i64 j, .int .i64 k, .int .i64 t, .int .i64 x.m, .int .i64 x.mi, .int .i64 x.c, .int .i64 x.d]
  have hC := (Chg.refl (OfDesk mb bo brs) w).alloc (.cells #[.int .i64 j, .int .i64 k, .int .i64 t, .int .i64 x.m, .int .i64 x.mi, .int .i64 x.c, .int .i64 x.d] 91)
  have hD0 := hD
  replace hD := hD.alloc (.cells #[.int .i64 j, .int .i64 k, .int .i64 t, .int .i64 x.m, .int .i64 x.mi, .int .i64 x.c, .int .i64 x.d] 91)
  have hwb : ∀ q ∈ g :: mb :: bo :: bp :: brs, w.heap.size ≠ q := fun q hq => by have := hD0.lts q hq; omega
  have HWB := hide hwb
  clear hwb
  have g50 : w.cell? ⟨g, 5, none⟩ = some (.slice (some ⟨b, off, none⟩) s.p.jobs.length s.cJ) := by rw [← HA.out]; exact hD0.blk.cell_ 5 rfl
  go_enter Try.func62, Try.ntmps62
  go_wp2_with fail
  clear g50 d0 d1 d2 d3 hc
  clear hD0
  generalize w.alloc (.cells #[.int .i64 j, .int .i64 k, .int .i64 t, .int .i64 x.m, .int .i64 x.mi, .int .i64 x.c, .int .i64 x.d] 91) = W at *
  have g6 := hD.blk.cell_ 6 rfl
  go_wp2_with fail
  have a0 := hka.cell_ 0 rfl
  have a1 := hka.cell_ 1 rfl
  have a2 := hka.cell_ 2 rfl
  have a3 := hka.cell_ 3 rfl
  have a4 := hka.cell_ 4 rfl
  have a5 := hka.cell_ 5 rfl
  have a6 := hka.cell_ 6 rfl
  refine wp_region_quiet_tail (C := fun w' => ∃ u : Since W, w' = u.w) 8 (by kernel_rfl) (by kernel_rfl) (Since.start W) ?_
  simp only [List.take_succ_cons, List.take_zero, List.drop_succ_cons, List.drop_zero]
  have y_a0 := Since.cell a0
  have y_a1 := Since.cell a1
  have y_a2 := Since.cell a2
  have y_a3 := Since.cell a3
  have y_a4 := Since.cell a4
  have y_a5 := Since.cell a5
  have y_a6 := Since.cell a6
  have y_g6 := Since.cell g6
  clear a0 a1 a2 a3 a4 a5 a6
  repeat (go_big_quiet_step ((fail)))
  refine wpQuiet_nil ?_
  rintro W ⟨⟨_, hb⟩, rfl⟩
  try dsimp only at hb ⊢
  replace g6 : W.cell? _ = _ := y_g6 ⟨W, hb⟩
  clear y_a0 y_a1 y_a2 y_a3 y_a4 y_a5 y_a6 y_g6
  replace hka := hka.below hb hka.lt
  replace hD := hD.below hb
  replace hC := hC.trans (.of_below hb)
  clear hb
  have a0 := hka.cell_ 0 rfl
  have a1 := hka.cell_ 1 rfl
  have a2 := hka.cell_ 2 rfl
  have a3 := hka.cell_ 3 rfl
  have a4 := hka.cell_ 4 rfl
  have a5 := hka.cell_ 5 rfl
  have a6 := hka.cell_ 6 rfl
  refine wpList_put_im rfl rfl _ _ _ _ rfl _ _ Try.underlying81 Try.underlying3 mb rfl hD.map x.m (atV ⟨j, k, t, x⟩) rfl rfl ?_
  intro W2 hM hg
  have hcm : Chg (fun k => k = mb) W W2 := .of_grown hg rfl
  replace hC := hC.trans' hcm (fun q _ hq => .inl hq)
  replace hka := hka.chg1 hcm (HWB.out mb (by simp))
  replace hD := hD.setMap hM hcm
  clear hcm
  clear hM hg g6
  obtain ⟨W, rfl⟩ : ∃ W : World, W = W2 := ⟨_, rfl⟩
  have a0 := hka.cell_ 0 rfl
  have a1 := hka.cell_ 1 rfl
  have a2 := hka.cell_ 2 rfl
  have a3 := hka.cell_ 3 rfl
  have a4 := hka.cell_ 4 rfl
  have a5 := hka.cell_ 5 rfl
  have a6 := hka.cell_ 6 rfl
  have g7 := hD.blk.cell_ 7 rfl
  go_wp2_with fail
  refine wp_region_quiet_tail (C := fun w' => ∃ u : Since W, w' = u.w) 8 (by kernel_rfl) (by kernel_rfl) (Since.start W) ?_
  simp only [List.take_succ_cons, List.take_zero, List.drop_succ_cons, List.drop_zero]
  have y_a0 := Since.cell a0
  have y_a1 := Since.cell a1
  have y_a2 := Since.cell a2
  have y_a3 := Since.cell a3
  have y_a4 := Since.cell a4
  have y_a5 := Since.cell a5
  have y_a6 := Since.cell a6
  have y_g7 := Since.cell g7
  clear a0 a1 a2 a3 a4 a5 a6
  repeat (go_big_quiet_step ((go_at_call 78; exact Since.calls (dry_any ⟨j, k, t, x⟩ _ ⟨by show _ ≤ t; omega, by show t ≤ _; omega⟩ ⟨f1, by show x.mi ≤ _; omega⟩ ⟨f3, by show x.d ≤ _; omega⟩))))
  refine wpQuiet_nil ?_
  rintro W ⟨⟨_, hb⟩, rfl⟩
  try dsimp only at hb ⊢
  replace g7 : W.cell? _ = _ := y_g7 ⟨W, hb⟩
  clear y_a0 y_a1 y_a2 y_a3 y_a4 y_a5 y_a6 y_g7
  replace hka := hka.below hb hka.lt
  replace hD := hD.below hb
  replace hC := hC.trans (.of_below hb)
  clear hb
  have a0 := hka.cell_ 0 rfl
  have a1 := hka.cell_ 1 rfl
  have a2 := hka.cell_ 2 rfl
  have a3 := hka.cell_ 3 rfl
  have a4 := hka.cell_ 4 rfl
  have a5 := hka.cell_ 5 rfl
  have a6 := hka.cell_ 6 rfl
  refine wpList_store_at rfl 3 _ _ rfl (.int .i64 (At.dry ⟨j, k, t, x⟩)) hD.on rfl rfl (by kernel_rfl) rfl (by rw [ints_size]; omega) rfl ?_
  intro W2 hO hc3
  replace hC := hC.trans' hc3 (fun q _ hq => .inr (.inl hq))
  replace hD := hD.setOn hO hc3
  clear hO hc3 g7 hka a0 a1 a2 a3 a4 a5 a6
  obtain ⟨W, rfl⟩ : ∃ W : World, W = W2 := ⟨_, rfl⟩
  have g8 := hD.blk.cell_ 8 rfl
  have hrow := hD.rows j br l HJ.out.2.2.2.1 HJ.out.2.2.1
  have hcell := hD.pl.cell_ j HJ.out.2.2.2.2.2
  dsimp only at g8
  go_wp2_with (refine wpList_store_at rfl 3 _ _ rfl (.int .i64 t) hrow rfl rfl (by kernel_rfl) rfl (by rw [ints_size]; omega) rfl ?_; intro W3 hR hc4)
  exact bodyPost_ret (v := .tuple #[]) (results_none rfl _ _ _) rfl ⟨rfl, hD.setRow HJ.out.2.2.2.1 HJ.out.2.2.1 hR hc4, hC.trans' hc4 (fun q _ hq => .inr (.inr (hq ▸ List.mem_of_getElem? HJ.out.2.2.2.1)))⟩
end Go.Proofs.Ytcpnfcnobnjhdaa
