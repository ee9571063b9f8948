/- Parts of the proofs of this seat: ReturnsLaw. Each part says what it proves; no condition beyond those stated there. -/
import Derived.Test.YtnejacogflkmmaaM24
import Derived.Test.YtnejacogflkmmaaM29

/- SheetReturns: the walk. -/
namespace Go.Proofs.Ytnejacogflkmmaa
open Go Go.RowKit
theorem back_err {s : SS} {x : Piece} (hx : look s.pieces x.id = some x) : backE s x.id = if x.use = 0 then 0 else 25 := by unfold backE; rw [hx]
theorem back_used {s : SS} {x : Piece} (hx : look s.pieces x.id = some x) (hu : x.use ≠ 0) : backS s x.id = s := by unfold backS; rw [hx]; dsimp only; rw [if_neg hu]
structure RetWaste (s : SS) (x : Piece) (t : SS) : Prop where
  small : x.width < s.rules.minWidth ∨ x.length < s.rules.minLength
  re : t.received = s.received
  st : stockF t = stockF s
  fr : freeF t = freeF s - x.width * x.length
  us : usedF t = usedF s
  wa : t.waste = s.waste + x.width * x.length
  no : ∀ y ∈ itemsL t, y.id ≠ x.id
structure RetItem (s : SS) (x : Piece) (t : SS) : Prop where
  big : ¬ (x.width < s.rules.minWidth ∨ x.length < s.rules.minLength)
  re : t.received = s.received
  st : stockF t = stockF s + x.width * x.length
  fr : freeF t = freeF s - x.width * x.length
  us : usedF t = usedF s
  wa : t.waste = s.waste
  yes : backItem s x ∈ itemsL t
  one : ∀ y ∈ itemsL t, y.id = x.id → y = backItem s x
theorem ret_yes {s : SS} (h : Inv s) {x : Piece} (hx : look s.pieces x.id = some x) (hu : x.use = 0) (hc : ¬ (x.width < s.rules.minWidth ∨ x.length < s.rules.minLength)) : RetItem s x (backS s x.id) := by
  have hi := (back_inv h x.id).1
  have e := back_item h hx hu hc
  have hb := back_free h hx hu
  have hl : look (backS s x.id).items x.id = some (backItem s x) := by rw [e]; exact look_put_self _ _ _
  refine ⟨hc, by rw [e], by rw [e]; exact back_stock h hx, by rw [e]; exact hb.1, by rw [e]; exact hb.2, by rw [e], ((items_shows hi).m _).2 hl, fun y hy he => ?_⟩
  have h1 := ((items_shows hi).m y).1 hy
  rw [he, hl] at h1
  injection h1 with h1
  exact h1.symm
theorem ret_no {s : SS} (h : Inv s) {x : Piece} (hx : look s.pieces x.id = some x) (hu : x.use = 0) (hc : x.width < s.rules.minWidth ∨ x.length < s.rules.minLength) : RetWaste s x (backS s x.id) := by
  have hi := (back_inv h x.id).1
  have e := back_waste h hx hu hc
  have hb := back_free h hx hu
  refine ⟨hc, by rw [e], by rw [e]; rfl, by rw [e]; exact hb.1, by rw [e]; exact hb.2, by rw [e], fun y hy he => ?_⟩
  have h1 := ((items_shows hi).m y).1 hy
  rw [he, e] at h1
  have h2 : look s.items x.id = some y := h1
  rw [no_item h hx] at h2; cases h2
set_option maxRecDepth 100000 in
set_option maxHeartbeats 8000000 in
theorem returns_walk (mw ml l0 l1 l2 : Int) (A : Option Addr) (c : Nat) (xs : List CallV) (at_ : Int) (w : World) (hS : Slc CallV.enc 17 w w.heap.size A xs) (hlen : xs.length ≤ maxLen) (hin : ∀ (i : Nat) x, xs[i]? = some x → CallIn w x) (ha0 : 0 ≤ at_) (ha1 : at_ ≤ 255) :
    Calls Try.prog 7 #[.agg #[.int .i64 mw, .int .i64 ml, .int .i64 l0, .int .i64 l1, .int .i64 l2], .slice A xs.length c, .int .u8 at_] w fun e w' => e = .returned (.bool true) ∧ Below w.heap.size w w' := by
  have HS := hide hS
  have HIN := hide hin
  have hk := Blk.new w 27 #[.int .i64 mw, .int .i64 ml, .int .i64 l0, .int .i64 l1, .int .i64 l2]
  have hB := (Below.refl w.heap.size w).alloc (Nat.le_refl _) (.cells #[.int .i64 mw, .int .i64 ml, .int .i64 l0, .int .i64 l1, .int .i64 l2] 27)
  clear hS hin
  go_enter Try.func7, Try.ntmps7
  go_upto_region 1 with fail
  generalize w.alloc (.cells #[.int .i64 mw, .int .i64 ml, .int .i64 l0, .int .i64 l1, .int .i64 l2] 27) = W at *
  have k0 := hk.cell_ 0 rfl
  have k1 := hk.cell_ 1 rfl
  have k2 := hk.cell_ 2 rfl
  have k3 := hk.cell_ 3 rfl
  have k4 := hk.cell_ 4 rfl
  have HLG : Hid (∀ b W, Below w.heap.size w W → largeB xs 14 = b → Calls Try.prog 20 #[.slice A xs.length c, .int .i64 14] W fun e w' => e = .returned (.bool b) ∧ W = w') := fun b W hb h => large_is A c xs 14 W (Slc.on HS.out hb) hlen h
  cases hL : largeB xs 14 with
  | true =>
    have HL := hide hL
    clear hL
    go_wp2_with fail
    refine (HLG.out true W hB HL.out).mono ?_
    rintro e W' ⟨rfl, rfl⟩
    clear k0 k1 k2 k3 k4 hk
    go_wp2_with fail
    refine (awake_any _).mono ?_
    rintro e W9 ⟨rfl, hb9⟩
    have hB9 := hB.trans (hb9.mono hB.size)
    go_wp2_with fail
    go_ret
    exact ⟨rfl, hB9⟩
  | false =>
    have HL := hide hL
    clear hL
    cases hv : validRules ⟨mw, ml, l0, l1, l2⟩ with
    | false =>
      have HV := hide hv
      clear hv
      go_wp2_with fail
      refine (HLG.out false W hB HL.out).mono ?_
      rintro e W' ⟨rfl, rfl⟩
      go_wp2_with fail
      refine (refValidRules_is mw ml l0 l1 l2 _ HV.out).mono ?_
      rintro e W4 ⟨rfl, hb4⟩
      replace hB := hB.trans (hb4.mono hB.size)
      clear k0 k1 k2 k3 k4 hb4 hk
      go_wp2_with fail
      refine (awake_any _).mono ?_
      rintro e W9 ⟨rfl, hb9⟩
      have hB9 := hB.trans (hb9.mono hB.size)
      go_wp2_with fail
      go_ret
      exact ⟨rfl, hB9⟩
    | true =>
      have HV := hide hv
      clear hv
      go_wp2_with fail
      refine (HLG.out false W hB HL.out).mono ?_
      rintro e W' ⟨rfl, rfl⟩
      go_wp2_with fail
      refine (refValidRules_is mw ml l0 l1 l2 _ HV.out).mono ?_
      rintro e W4 ⟨rfl, hb4⟩
      replace hk := hk.below hb4 hk.lt
      replace hB := hB.trans (hb4.mono hB.size)
      clear k0 k1 k2 k3 k4 hb4
      have k0 := hk.cell_ 0 rfl
      have k1 := hk.cell_ 1 rfl
      have k2 := hk.cell_ 2 rfl
      have k3 := hk.cell_ 3 rfl
      have k4 := hk.cell_ 4 rfl
      obtain ⟨hl14, hbig⟩ := not_large HL.out
      have hl100 : xs.length ≤ 100 := by omega
      have HXI : Hid (∀ x ∈ xs, CallIn w x ∧ x.n ≤ 40) := fun x hx => by
        obtain ⟨j, hj⟩ := List.getElem?_of_mem hx
        exact ⟨HIN.out j x hj, (hbig x hx).1⟩
      clear hl14 hbig
      go_wp2_with fail
      refine (filled_any w mw ml l0 l1 l2 A c xs W4 HV.out hB HS.out hl100 HXI.out).mono ?_
      rintro e W5 ⟨p, rfl, hX, hnew, hb5⟩
      obtain ⟨q1, q2, q3⟩ := fill_ok (w := w) (xs := xs) HV.out hl100
      obtain ⟨s, hs⟩ : ∃ s, fillF w ⟨mw, ml, l0, l1, l2⟩ xs = s := ⟨_, rfl⟩
      rw [hs] at hX q1 q2 q3
      have HI := hide q1
      have HR := hide q2
      have HRU := hide q3
      have HF := hide q2.few
      have HNEW : Hid (∀ k, p.has k → w.heap.size ≤ k) := fun k hk => Nat.le_trans hB.size (hnew k hk)
      replace hB := hB.trans (hb5.mono hB.size)
      replace hk := hk.below hb5 hk.lt
      clear k0 k1 k2 k3 k4 hb5 hnew hs q1 q2 q3
      obtain ⟨W, rfl⟩ : ∃ X : World, X = W5 := ⟨_, rfl⟩
      go_wp2_with fail
      refine (pieces_any p s W hX HI.out HF.out).mono ?_
      rintro e W6 ⟨A1, c1, rfl, hP, hb6, hA1⟩
      replace hX := hX.below hb6
      replace hB := hB.trans (hb6.mono hB.size)
      replace hk := hk.below hb6 hk.lt
      clear hA1 hb6
      obtain ⟨ps, hps⟩ : ∃ ps, piecesL s = ps := ⟨_, rfl⟩
      have HPS := hide hps
      have hpl : ps.length ≤ 1000000 := by rw [← hps, pieces_len HI.out]; exact HF.out.pc
      rw [hps] at hP ⊢
      clear hps
      by_cases h0 : ps.length = 0
      · rw [h0]
        have hz : (0 : Int) = 0 := rfl
        clear hX hP hk
        go_wp2_with fail
        refine (awake_any _).mono ?_
        rintro e W9 ⟨rfl, hb9⟩
        have hB9 := hB.trans (hb9.mono hB.size)
        go_wp2_with fail
        go_ret
        exact ⟨rfl, hB9⟩
      · have hnz : ¬ ((ps.length : Int) = 0) := by omega
        obtain ⟨k, hk9⟩ : ∃ k : Nat, at_.tmod (ps.length : Int) = (k : Int) := ⟨(at_.tmod (ps.length : Int)).toNat, by rw [Int.toNat_of_nonneg (Int.tmod_nonneg _ ha0)]⟩
        have hkl : k < ps.length := by have := Int.tmod_lt_of_pos at_ (show (0 : Int) < ps.length by omega); omega
        obtain ⟨x, hx⟩ : ∃ x, ps[k]? = some x := ⟨_, List.getElem?_eq_getElem hkl⟩
        obtain ⟨b, off, hA, hb, d0, d1, d2, d3, d4, d5, d6, d7⟩ := pce_at hP hx
        have HLX : Hid (look s.pieces x.id = some x) := ((pieces_shows HI.out).m x).1 (by rw [HPS.out]; exact List.mem_of_getElem? hx)
        have ew : IntKind.i64.wrap at_ = at_ := IntWalk.i64_in _ (by omega)
        have hki : (k : Int) < (ps.length : Int) := by omega
        clear hx
        subst hA
        have hpc := Blk.new W6 48 #[.int .i64 x.id, .int .i64 x.root, .int .i64 x.lot, .int .i64 x.grade, .int .i64 x.colour, .int .i64 x.width, .int .i64 x.length, .int .i64 x.use]
        have hal := (Below.refl W6.heap.size W6).alloc (Nat.le_refl _) (.cells #[.int .i64 x.id, .int .i64 x.root, .int .i64 x.lot, .int .i64 x.grade, .int .i64 x.colour, .int .i64 x.width, .int .i64 x.length, .int .i64 x.use] 48)
        replace hX := hX.below hal
        replace hk := hk.below hal hk.lt
        replace hB := hB.trans (hal.mono hB.size)
        go_upto_region 10 with fail
        clear d0 d1 d2 d3 d4 d5 d6 d7 hal hP ew hk9 hki
        generalize W6.alloc (.cells #[.int .i64 x.id, .int .i64 x.root, .int .i64 x.lot, .int .i64 x.grade, .int .i64 x.colour, .int .i64 x.width, .int .i64 x.length, .int .i64 x.use] 48) = W7 at *
        generalize W6.heap.size = bx at *
        have HXC := hide hX
        go_wp2_with fail
        refine (balance_any p s W7 HXC.out HI.out HF.out).mono ?_
        rintro e W8 ⟨rfl, hb8⟩
        clear HXC
        have hb0w : w.heap.size ≤ W8.heap.size := Nat.le_trans hB.size hb8.size
        have hbb := Blk.new W8 57 #[.int .i64 s.received, .int .i64 (stockF s), .int .i64 (freeF s), .int .i64 (usedF s), .int .i64 s.waste]
        have hal := (Below.refl W8.heap.size W8).alloc (Nat.le_refl _) (.cells #[.int .i64 s.received, .int .i64 (stockF s), .int .i64 (freeF s), .int .i64 (usedF s), .int .i64 s.waste] 57)
        replace hX := (hX.below hb8).below hal
        replace hk := (hk.below hb8 hk.lt).below hal (Nat.lt_of_lt_of_le hk.lt hb8.size)
        replace hpc := (hpc.below hb8 hpc.lt).below hal (Nat.lt_of_lt_of_le hpc.lt hb8.size)
        replace hB := (hB.trans (hb8.mono hB.size)).trans (hal.mono (Nat.le_trans hB.size hb8.size))
        go_upto_region 11 with fail
        clear hb8 hal
        generalize W8.alloc (.cells #[.int .i64 s.received, .int .i64 (stockF s), .int .i64 (freeF s), .int .i64 (usedF s), .int .i64 s.waste] 57) = W9 at *
        have hbbg : w.heap.size ≤ W8.heap.size := by have := hb0w; omega
        generalize W8.heap.size = bb at *
        have HBBG := hide hbbg
        clear hbbg hb0w
        have x0 := hpc.cell_ 0 (v := .int .i64 x.id) rfl
        have HXC := hide hX
        clear hX
        go_wp2_with fail
        refine (return_any p s x.id W9 HXC.out HI.out HF.out).mono ?_
        rintro e W10 ⟨rfl, hX, hC⟩
        replace hk := hk.chgS HXC.out hC (by decide)
        replace hpc := hpc.chgS HXC.out hC (by decide)
        replace hbb := hbb.chgS HXC.out hC (by decide)
        replace hB := hB.trans (hC.to_below hB.size fun k hk hp => by have := HNEW.out k hp; omega)
        clear x0 hC HXC
        have HIB := hide (back_inv HI.out x.id).1
        have HFB : Hid (Few (backS s x.id)) := (More.room (r := 0) (k := 1) (HR.out.less (by omega)) (more_back s x.id) (by omega) (by omega) (by omega) (by omega)).few
        obtain ⟨W, rfl⟩ : ∃ X : World, X = W10 := ⟨_, rfl⟩
        by_cases hu : x.use = 0
        case neg =>
          have HE : Hid (backE s x.id = 25 ∧ backS s x.id = s) := ⟨by rw [back_err HLX.out, if_neg hu], back_used HLX.out hu⟩
          have hun : (x.use != 0) = true := by simp [hu]
          rw [HE.out.1]
          rw [HE.out.2] at hX
          clear hu
          have x7 := hpc.cell_ 7 (v := .int .i64 x.use) rfl
          have eqb := eql_bal s.received (stockF s) (freeF s) (usedF s) s.waste
          go_upto_region 13 with fail
          clear x7 hun
          go_wp2_with fail
          have z0 := hbb.cell_ 0 rfl
          have z1 := hbb.cell_ 1 rfl
          have z2 := hbb.cell_ 2 rfl
          have z3 := hbb.cell_ 3 rfl
          have z4 := hbb.cell_ 4 rfl
          refine wp_region_quiet (C := fun w' => ∃ u : Since W, w' = u.w) (by kernel_rfl) (by kernel_rfl) (Since.start W) ?_
          dsimp only
          have y_z0 := Since.cell z0
          have y_z1 := Since.cell z1
          have y_z2 := Since.cell z2
          have y_z3 := Since.cell z3
          have y_z4 := Since.cell z4
          clear z0 z1 z2 z3 z4
          repeat (go_big_quiet_step ((first | (go_at_call 27; exact Since.calls (balance_any p s _ (hX.below (Since.h _)) HI.out HF.out)) | (go_at_call 12; exact Since.calls (awake_any _)))))
          refine wpQuiet_nil ?_
          rintro W ⟨⟨_, hb⟩, rfl⟩
          try dsimp only at hb ⊢
          clear y_z0 y_z1 y_z2 y_z3 y_z4
          replace hX := StA.below hX hb
          replace hB := Below.trans hB (Below.mono hb (Below.size hB))
          replace hbb := hbb.below hb hbb.lt
          clear hb
          have z0 := hbb.cell_ 0 rfl
          have z1 := hbb.cell_ 1 rfl
          have z2 := hbb.cell_ 2 rfl
          have z3 := hbb.cell_ 3 rfl
          have z4 := hbb.cell_ 4 rfl
          go_wp2_with fail
          go_ret
          exact ⟨rfl, hB⟩
        case pos =>
          have HU := hide hu
          have HE : Hid (backE s x.id = 0) := by show _ = _; rw [back_err HLX.out, if_pos hu]
          have hun : (x.use != 0) = false := by simp [hu]
          rw [HE.out]
          clear hu
          have x7 := hpc.cell_ 7 (v := .int .i64 x.use) rfl
          go_upto_region 14 with fail
          clear x7 hun
          obtain ⟨ar, har⟩ : ∃ ar, x.width * x.length = ar := ⟨_, rfl⟩
          have HAR := hide har
          have hab := piece_area HI.out HLX.out
          rw [har] at hab
          have HAB := hide hab
          have e1 : IntKind.i64.wrap (x.width * x.length) = ar := by rw [har]; exact IntWalk.i64_in _ (by omega)
          have x5 := hpc.cell_ 5 (v := .int .i64 x.width) rfl
          have x6 := hpc.cell_ 6 (v := .int .i64 x.length) rfl
          obtain ⟨a1, a2, a3, a4, a5, a6⟩ := areas_bd HI.out HF.out
          have HA := hide (show 0 ≤ stockF s ∧ 0 ≤ freeF s ∧ 0 ≤ usedF s ∧ 0 ≤ s.waste ∧ stockF s + freeF s + usedF s + s.waste = s.received ∧ s.received ≤ 1000000000000000 from ⟨a1, a2, a3, a4, a5, a6⟩)
          have e2 : IntKind.i64.wrap (freeF s - ar) = freeF s - ar := IntWalk.i64_in _ (by omega)
          have z2 := hbb.cell_ 2 (v := .int .i64 (freeF s)) rfl
          clear a1 a2 a3 a4 a5 a6 har hab
          go_upto_region 18 with (refine wpList_store_at rfl 3 _ _ rfl (.int .i64 (freeF s - ar)) hbb rfl rfl (by kernel_rfl) rfl (by simp) rfl ?_; intro W3 hB3 hc3)
          have hX3 := hX.chg1 hc3 hbb (by decide) (by decide)
          have hk3 := hk.chg1 hc3 (hk.ne_ hbb (by decide))
          have hpc3 := hpc.chg1 hc3 (hpc.ne_ hbb (by decide))
          have hB3' := hB.trans (hc3.below1 hB.size (by have := HBBG.out; omega))
          have hbb3 : Blk W3 bb 57 #[.int .i64 s.received, .int .i64 (stockF s), .int .i64 (freeF s - ar), .int .i64 (usedF s), .int .i64 s.waste] := hB3
          clear hX hk hpc hB hbb hB3 hc3 e1 e2 z2 x5 x6
          try dsimp only [Act.put]
          have HXC := hide hX3
          obtain ⟨t, ht⟩ : ∃ t, backS s x.id = t := ⟨_, rfl⟩
          have HTW : Hid ((x.width < s.rules.minWidth ∨ x.length < s.rules.minLength) → RetWaste s x t) := fun hc => by rw [← ht]; exact ret_no HI.out HLX.out HU.out hc
          have HTI : Hid (¬ (x.width < s.rules.minWidth ∨ x.length < s.rules.minLength) → RetItem s x t) := fun hc => by rw [← ht]; exact ret_yes HI.out HLX.out HU.out hc
          rw [ht] at HIB HFB HXC
          clear ht hX3
          go_wp2_with fail
          refine (items_any p t W3 HXC.out HIB.out HFB.out).mono ?_
          rintro e W5 ⟨AI, cI, hs, rfl, hSI, hIn, hb5, _⟩
          have hX5 := HXC.out.below hb5
          have hk5 := hk3.below hb5 hk3.lt
          have hpc5 := hpc3.below hb5 hpc3.lt
          have hbb5 := hbb3.below hb5 hbb3.lt
          have hB5 := hB3'.trans (hb5.mono hB3'.size)
          clear HXC hk3 hpc3 hbb3 hB3' hb5
          obtain ⟨ys, hys⟩ : ∃ ys, itemsL t = ys := ⟨_, rfl⟩
          have HYS := hide hys
          have hyl : ys.length ≤ 1000000 := by rw [← hys, items_len HIB.out]; exact HFB.out.it
          rw [hys] at hIn ⊢
          clear hys
          have HSI := hide hSI
          have HIN2 := hide hIn
          have HX5 := hide hX5
          have HK5 := hide hk5
          have HPC5 := hide hpc5
          have HBB5 := hide hbb5
          have HB5 := hide hB5
          have hbl := hbb5.lt
          clear hSI hIn hX5 hk5 hpc5 hbb5 hB5
          go_upto_region 20 with fail
          go_loopw [14] (fun z wr => ∃ (i : Nat), z = .int .i64 i ∧ i ≤ ys.length ∧ Hid (∀ y ∈ ys.take i, y.id ≠ x.id) ∧ Below W5.heap.size W5 wr) (fun z _ => ys.length - (intOf z).toNat)
          case atStart => exact ⟨0, rfl, Nat.zero_le _, (fun y hy => by simp at hy : Hid _), Below.refl _ _⟩
          case round =>
            obtain ⟨W, rfl⟩ : ∃ X : World, X = wr := ⟨_, rfl⟩
            obtain ⟨i, rfl, hi, HNO, hb⟩ := hrel
            have hbs := hb.size
            by_cases hlt : i < ys.length
            · obtain ⟨y, hy⟩ : ∃ y, ys[i]? = some y := ⟨_, List.getElem?_eq_getElem hlt⟩
              obtain ⟨A9, c9, hh, _⟩ := HIN2.out.at_ hy
              obtain ⟨bS, oS, hAS, hbS, d0, d1, d2, d3, d4, d5, d6, d7, d8⟩ := sh_at (HSI.out.below hb) hh
              have hii : (i : Int) < (ys.length : Int) := by omega
              have ei : IntKind.i64.wrap ((i : Int) + 1) = ((i + 1 : Nat) : Int) := by rw [IntWalk.i64_in _ (by omega)]; push_cast; rfl
              have HY := hide hy
              clear hy hh
              subst hAS
              have hyb := Blk.new W 54 #[.int .i64 y.id, .int .i64 y.root, .int .i64 y.grade, .int .i64 y.colour, .int .i64 y.lot, .int .i64 y.made, .int .i64 y.width, .int .i64 y.length, .slice A9 y.faults.length c9]
              have hal := (Below.refl W.heap.size W).alloc (Nat.le_refl _) (.cells #[.int .i64 y.id, .int .i64 y.root, .int .i64 y.grade, .int .i64 y.colour, .int .i64 y.lot, .int .i64 y.made, .int .i64 y.width, .int .i64 y.length, .slice A9 y.faults.length c9] 54)
              go_upto_region 23 with fail
              clear d0 d1 d2 d3 d4 d5 d6 d7 d8
              replace hb := hb.trans (hal.mono hbs)
              have hyg : bb < W.heap.size := by omega
              clear hal
              generalize W.alloc (.cells #[.int .i64 y.id, .int .i64 y.root, .int .i64 y.grade, .int .i64 y.colour, .int .i64 y.lot, .int .i64 y.made, .int .i64 y.width, .int .i64 y.length, .slice A9 y.faults.length c9] 54) = W3 at *
              generalize W.heap.size = by_ at *
              obtain ⟨W, rfl⟩ : ∃ X : World, X = W3 := ⟨_, rfl⟩
              have q0 := hyb.cell_ 0 (v := .int .i64 y.id) rfl
              have x0 := (HPC5.out.below hb HPC5.out.lt).cell_ 0 (v := .int .i64 x.id) rfl
              by_cases hyx : y.id = x.id
              · have HRI : Hid (RetItem s x t) := by
                  show RetItem s x t
                  by_cases hc : x.width < s.rules.minWidth ∨ x.length < s.rules.minLength
                  · exact absurd hyx ((HTW.out hc).no y (by rw [HYS.out]; exact List.mem_of_getElem? HY.out))
                  · exact HTI.out hc
                have hye : y = backItem s x := HRI.out.one y (by rw [HYS.out]; exact List.mem_of_getElem? HY.out) hyx
                clear q0
                subst hye
                have hyc : Blk W by_ 54 #[.int .i64 x.id, .int .i64 x.root, .int .i64 x.grade, .int .i64 x.colour, .int .i64 x.lot, .int .i64 (madeF s x.lot), .int .i64 x.width, .int .i64 x.length, .slice A9 0 c9] := hyb
                have q0 := hyc.cell_ 0 (v := .int .i64 x.id) rfl
                have hbbW := HBB5.out.below hb HBB5.out.lt
                have z1 := hbbW.cell_ 1 (v := .int .i64 (stockF s)) rfl
                have e1 : IntKind.i64.wrap (stockF s + ar) = stockF s + ar := IntWalk.i64_in _ (by have := HA.out; have := HAB.out; omega)
                clear hyx hyb
                go_upto_region 25 with (refine wpList_store_at rfl 3 _ _ rfl (.int .i64 (stockF s + ar)) hbbW rfl rfl (by kernel_rfl) rfl (by simp) rfl ?_; intro W4 hB4 hc4)
                have hX := (HX5.out.below hb).chg1 hc4 hbbW (by decide) (by decide)
                have hyc4 := hyc.chg1 hc4 (hyc.ne_ hbbW (by decide))
                have hpc := (HPC5.out.below hb HPC5.out.lt).chg1 hc4 ((HPC5.out.below hb HPC5.out.lt).ne_ hbbW (by decide))
                have hk := (HK5.out.below hb HK5.out.lt).chg1 hc4 ((HK5.out.below hb HK5.out.lt).ne_ hbbW (by decide))
                have hB := (HB5.out.trans (hb.mono HB5.out.size)).trans (hc4.below1 (Nat.le_trans HB5.out.size hb.size) HBBG.out)
                have hbb : Blk W4 bb 57 #[.int .i64 s.received, .int .i64 (stockF s + ar), .int .i64 (freeF s - ar), .int .i64 (usedF s), .int .i64 s.waste] := hB4
                clear hb hbs hyg q0 x0 hyc hbbW z1 e1 hB4 hc4
                obtain ⟨W, rfl⟩ : ∃ X : World, X = W4 := ⟨_, rfl⟩
                try dsimp only [Act.put]
                have HBT : Hid (∀ W', StA W' p t → Calls Try.prog 27 #[.pointer (some ⟨p.g, 0, none⟩)] W' fun e w' => e = .returned (.agg #[.int .i64 s.received, .int .i64 (stockF s + ar), .int .i64 (freeF s - ar), .int .i64 (usedF s), .int .i64 s.waste]) ∧ Below W'.heap.size W' w') := fun W' h => by
                  have := balance_any p t W' h HIB.out HFB.out
                  rw [HRI.out.re, HRI.out.st, HRI.out.fr, HRI.out.us, HRI.out.wa, HAR.out] at this
                  exact this
                have eqb := eql_bal s.received (stockF s + ar) (freeF s - ar) (usedF s) s.waste
                have hbig : mw ≤ x.width ∧ ml ≤ x.length := by have h := HRI.out.big; rw [HRU.out] at h; dsimp only at h; omega
                have g1 : decide (mw ≤ x.width) = true := decide_eq_true hbig.1
                have g2 : decide (ml ≤ x.length) = true := decide_eq_true hbig.2
                clear hbig
                have z0 := hbb.cell_ 0 rfl
                have z1 := hbb.cell_ 1 rfl
                have z2 := hbb.cell_ 2 rfl
                have z3 := hbb.cell_ 3 rfl
                have z4 := hbb.cell_ 4 rfl
                have q0 := hyc4.cell_ 0 rfl
                have q1 := hyc4.cell_ 1 rfl
                have q2 := hyc4.cell_ 2 rfl
                have q3 := hyc4.cell_ 3 rfl
                have q4 := hyc4.cell_ 4 rfl
                have q5 := hyc4.cell_ 5 rfl
                have q6 := hyc4.cell_ 6 rfl
                have q7 := hyc4.cell_ 7 rfl
                have q8 := hyc4.cell_ 8 rfl
                have x0 := hpc.cell_ 0 rfl
                have x1 := hpc.cell_ 1 rfl
                have x2 := hpc.cell_ 2 rfl
                have x3 := hpc.cell_ 3 rfl
                have x4 := hpc.cell_ 4 rfl
                have x5 := hpc.cell_ 5 rfl
                have x6 := hpc.cell_ 6 rfl
                have x7 := hpc.cell_ 7 rfl
                have k0 := hk.cell_ 0 rfl
                have k1 := hk.cell_ 1 rfl
                have k2 := hk.cell_ 2 rfl
                have k3 := hk.cell_ 3 rfl
                have k4 := hk.cell_ 4 rfl
                go_wp2_with fail
                refine wp_region_quiet (C := fun w' => ∃ u : Since W, w' = u.w) (by kernel_rfl) (by kernel_rfl) (Since.start W) ?_
                dsimp only
                have y_z0 := Since.cell z0
                have y_z1 := Since.cell z1
                have y_z2 := Since.cell z2
                have y_z3 := Since.cell z3
                have y_z4 := Since.cell z4
                have y_q0 := Since.cell q0
                have y_q1 := Since.cell q1
                have y_q2 := Since.cell q2
                have y_q3 := Since.cell q3
                have y_q4 := Since.cell q4
                have y_q5 := Since.cell q5
                have y_q6 := Since.cell q6
                have y_q7 := Since.cell q7
                have y_q8 := Since.cell q8
                have y_x0 := Since.cell x0
                have y_x1 := Since.cell x1
                have y_x2 := Since.cell x2
                have y_x3 := Since.cell x3
                have y_x4 := Since.cell x4
                have y_x5 := Since.cell x5
                have y_x6 := Since.cell x6
                have y_x7 := Since.cell x7
                have y_k0 := Since.cell k0
                have y_k1 := Since.cell k1
                have y_k2 := Since.cell k2
                have y_k3 := Since.cell k3
                have y_k4 := Since.cell k4
                clear z0 z1 z2 z3 z4 q0 q1 q2 q3 q4 q5 q6 q7 q8 x0 x1 x2 x3 x4 x5 x6 x7 k0 k1 k2 k3 k4
                repeat (go_big_quiet_step ((first | (go_at_call 27; exact Since.calls (HBT.out _ (hX.below (Since.h _)))) | (go_at_call 12; exact Since.calls (awake_any _)))))
                refine wpQuiet_nil ?_
                rintro W ⟨⟨_, hb⟩, rfl⟩
                try dsimp only at hb ⊢
                clear y_z0 y_z1 y_z2 y_z3 y_z4 y_q0 y_q1 y_q2 y_q3 y_q4 y_q5 y_q6 y_q7 y_q8 y_x0 y_x1 y_x2 y_x3 y_x4 y_x5 y_x6 y_x7 y_k0 y_k1 y_k2 y_k3 y_k4
                replace hX := StA.below hX hb
                replace hB := Below.trans hB (Below.mono hb (Below.size hB))
                replace hbb := hbb.below hb hbb.lt
                replace hyc4 := hyc4.below hb hyc4.lt
                replace hpc := hpc.below hb hpc.lt
                replace hk := hk.below hb hk.lt
                clear hb
                have z0 := hbb.cell_ 0 rfl
                have z1 := hbb.cell_ 1 rfl
                have z2 := hbb.cell_ 2 rfl
                have z3 := hbb.cell_ 3 rfl
                have z4 := hbb.cell_ 4 rfl
                have q0 := hyc4.cell_ 0 rfl
                have q1 := hyc4.cell_ 1 rfl
                have q2 := hyc4.cell_ 2 rfl
                have q3 := hyc4.cell_ 3 rfl
                have q4 := hyc4.cell_ 4 rfl
                have q5 := hyc4.cell_ 5 rfl
                have q6 := hyc4.cell_ 6 rfl
                have q7 := hyc4.cell_ 7 rfl
                have q8 := hyc4.cell_ 8 rfl
                have x0 := hpc.cell_ 0 rfl
                have x1 := hpc.cell_ 1 rfl
                have x2 := hpc.cell_ 2 rfl
                have x3 := hpc.cell_ 3 rfl
                have x4 := hpc.cell_ 4 rfl
                have x5 := hpc.cell_ 5 rfl
                have x6 := hpc.cell_ 6 rfl
                have x7 := hpc.cell_ 7 rfl
                have k0 := hk.cell_ 0 rfl
                have k1 := hk.cell_ 1 rfl
                have k2 := hk.cell_ 2 rfl
                have k3 := hk.cell_ 3 rfl
                have k4 := hk.cell_ 4 rfl
                clear z0 z1 z2 z3 z4 q0 q1 q2 q3 q4 q5 q6 q7 q8 x0 x1 x2 x3 x4 x5 x6 x7 k0 k1 k2 k3 k4
                go_wp2_with fail
                go_ret
                exact ⟨rfl, hB⟩
              · have HT : Hid (∀ z ∈ ys.take (i + 1), z.id ≠ x.id) := fun z hz => by
                  rw [List.take_add_one, HY.out, Option.toList_some] at hz
                  rcases List.mem_append.1 hz with h | h
                  · exact HNO.out z h
                  · rw [List.mem_singleton.1 h]; exact hyx
                go_wp2_with fail
                clear q0 x0 hyb hyx
                go_roundw
                case rel => exact ⟨i + 1, by go_num, by omega, HT, hb⟩
                case measure => simp [intOf]; omega
            · obtain rfl : i = ys.length := by omega
              have HRW : Hid (RetWaste s x t) := by
                show RetWaste s x t
                by_cases hc : x.width < s.rules.minWidth ∨ x.length < s.rules.minLength
                · exact HTW.out hc
                · have h1 := HNO.out
                  rw [List.take_length, ← HYS.out] at h1
                  exact absurd rfl (h1 _ (HTI.out hc).yes)
              have hbbW := HBB5.out.below hb HBB5.out.lt
              have z4 := hbbW.cell_ 4 (v := .int .i64 s.waste) rfl
              have e1 : IntKind.i64.wrap (s.waste + ar) = s.waste + ar := IntWalk.i64_in _ (by have := HA.out; have := HAB.out; omega)
              go_upto_region 27 with (refine wpList_store_at rfl 3 _ _ rfl (.int .i64 (s.waste + ar)) hbbW rfl rfl (by kernel_rfl) rfl (by simp) rfl ?_; intro W4 hB4 hc4)
              have hX := (HX5.out.below hb).chg1 hc4 hbbW (by decide) (by decide)
              have hpc := (HPC5.out.below hb HPC5.out.lt).chg1 hc4 ((HPC5.out.below hb HPC5.out.lt).ne_ hbbW (by decide))
              have hk := (HK5.out.below hb HK5.out.lt).chg1 hc4 ((HK5.out.below hb HK5.out.lt).ne_ hbbW (by decide))
              have hB := (HB5.out.trans (hb.mono HB5.out.size)).trans (hc4.below1 (Nat.le_trans HB5.out.size hb.size) HBBG.out)
              have hbb : Blk W4 bb 57 #[.int .i64 s.received, .int .i64 (stockF s), .int .i64 (freeF s - ar), .int .i64 (usedF s), .int .i64 (s.waste + ar)] := hB4
              clear hb hbs hbbW z4 e1 hB4 hc4
              obtain ⟨W, rfl⟩ : ∃ X : World, X = W4 := ⟨_, rfl⟩
              try dsimp only [Act.put]
              have HBT : Hid (∀ W', StA W' p t → Calls Try.prog 27 #[.pointer (some ⟨p.g, 0, none⟩)] W' fun e w' => e = .returned (.agg #[.int .i64 s.received, .int .i64 (stockF s), .int .i64 (freeF s - ar), .int .i64 (usedF s), .int .i64 (s.waste + ar)]) ∧ Below W'.heap.size W' w') := fun W' h => by
                have := balance_any p t W' h HIB.out HFB.out
                rw [HRW.out.re, HRW.out.st, HRW.out.fr, HRW.out.us, HRW.out.wa, HAR.out] at this
                exact this
              have eqb := eql_bal s.received (stockF s) (freeF s - ar) (usedF s) (s.waste + ar)
              have hsm : x.width < mw ∨ x.length < ml := by have h := HRW.out.small; rw [HRU.out] at h; exact h
              have z0 := hbb.cell_ 0 rfl
              have z1 := hbb.cell_ 1 rfl
              have z2 := hbb.cell_ 2 rfl
              have z3 := hbb.cell_ 3 rfl
              have z4 := hbb.cell_ 4 rfl
              have x0 := hpc.cell_ 0 rfl
              have x1 := hpc.cell_ 1 rfl
              have x2 := hpc.cell_ 2 rfl
              have x3 := hpc.cell_ 3 rfl
              have x4 := hpc.cell_ 4 rfl
              have x5 := hpc.cell_ 5 rfl
              have x6 := hpc.cell_ 6 rfl
              have x7 := hpc.cell_ 7 rfl
              have k0 := hk.cell_ 0 rfl
              have k1 := hk.cell_ 1 rfl
              have k2 := hk.cell_ 2 rfl
              have k3 := hk.cell_ 3 rfl
              have k4 := hk.cell_ 4 rfl
              by_cases h1 : x.width < mw
              · have g1 : decide (x.width < mw) = true := decide_eq_true h1
                clear h1 hsm
                go_wp2_with fail
                refine wp_region_quiet (C := fun w' => ∃ u : Since W, w' = u.w) (by kernel_rfl) (by kernel_rfl) (Since.start W) ?_
                dsimp only
                have y_z0 := Since.cell z0
                have y_z1 := Since.cell z1
                have y_z2 := Since.cell z2
                have y_z3 := Since.cell z3
                have y_z4 := Since.cell z4
                have y_x0 := Since.cell x0
                have y_x1 := Since.cell x1
                have y_x2 := Since.cell x2
                have y_x3 := Since.cell x3
                have y_x4 := Since.cell x4
                have y_x5 := Since.cell x5
                have y_x6 := Since.cell x6
                have y_x7 := Since.cell x7
                have y_k0 := Since.cell k0
                have y_k1 := Since.cell k1
                have y_k2 := Since.cell k2
                have y_k3 := Since.cell k3
                have y_k4 := Since.cell k4
                clear z0 z1 z2 z3 z4 x0 x1 x2 x3 x4 x5 x6 x7 k0 k1 k2 k3 k4
                repeat (go_big_quiet_step ((first | (go_at_call 27; exact Since.calls (HBT.out _ (hX.below (Since.h _)))) | (go_at_call 12; exact Since.calls (awake_any _)))))
                refine wpQuiet_nil ?_
                rintro W ⟨⟨_, hb⟩, rfl⟩
                try dsimp only at hb ⊢
                clear y_z0 y_z1 y_z2 y_z3 y_z4 y_x0 y_x1 y_x2 y_x3 y_x4 y_x5 y_x6 y_x7 y_k0 y_k1 y_k2 y_k3 y_k4
                replace hX := StA.below hX hb
                replace hB := Below.trans hB (Below.mono hb (Below.size hB))
                replace hbb := hbb.below hb hbb.lt
                replace hpc := hpc.below hb hpc.lt
                replace hk := hk.below hb hk.lt
                clear hb
                have z0 := hbb.cell_ 0 rfl
                have z1 := hbb.cell_ 1 rfl
                have z2 := hbb.cell_ 2 rfl
                have z3 := hbb.cell_ 3 rfl
                have z4 := hbb.cell_ 4 rfl
                have x0 := hpc.cell_ 0 rfl
                have x1 := hpc.cell_ 1 rfl
                have x2 := hpc.cell_ 2 rfl
                have x3 := hpc.cell_ 3 rfl
                have x4 := hpc.cell_ 4 rfl
                have x5 := hpc.cell_ 5 rfl
                have x6 := hpc.cell_ 6 rfl
                have x7 := hpc.cell_ 7 rfl
                have k0 := hk.cell_ 0 rfl
                have k1 := hk.cell_ 1 rfl
                have k2 := hk.cell_ 2 rfl
                have k3 := hk.cell_ 3 rfl
                have k4 := hk.cell_ 4 rfl
                clear z0 z1 z2 z3 z4 x0 x1 x2 x3 x4 x5 x6 x7 k0 k1 k2 k3 k4
                go_wp2_with fail
                go_ret
                exact ⟨rfl, hB⟩
              · have g1 : decide (x.width < mw) = false := decide_eq_false h1
                have g2 : decide (x.length < ml) = true := decide_eq_true (by omega)
                clear h1 hsm
                go_wp2_with fail
                refine wp_region_quiet (C := fun w' => ∃ u : Since W, w' = u.w) (by kernel_rfl) (by kernel_rfl) (Since.start W) ?_
                dsimp only
                have y_z0 := Since.cell z0
                have y_z1 := Since.cell z1
                have y_z2 := Since.cell z2
                have y_z3 := Since.cell z3
                have y_z4 := Since.cell z4
                have y_x0 := Since.cell x0
                have y_x1 := Since.cell x1
                have y_x2 := Since.cell x2
                have y_x3 := Since.cell x3
                have y_x4 := Since.cell x4
                have y_x5 := Since.cell x5
                have y_x6 := Since.cell x6
                have y_x7 := Since.cell x7
                have y_k0 := Since.cell k0
                have y_k1 := Since.cell k1
                have y_k2 := Since.cell k2
                have y_k3 := Since.cell k3
                have y_k4 := Since.cell k4
                clear z0 z1 z2 z3 z4 x0 x1 x2 x3 x4 x5 x6 x7 k0 k1 k2 k3 k4
                repeat (go_big_quiet_step ((first | (go_at_call 27; exact Since.calls (HBT.out _ (hX.below (Since.h _)))) | (go_at_call 12; exact Since.calls (awake_any _)))))
                refine wpQuiet_nil ?_
                rintro W ⟨⟨_, hb⟩, rfl⟩
                try dsimp only at hb ⊢
                clear y_z0 y_z1 y_z2 y_z3 y_z4 y_x0 y_x1 y_x2 y_x3 y_x4 y_x5 y_x6 y_x7 y_k0 y_k1 y_k2 y_k3 y_k4
                replace hX := StA.below hX hb
                replace hB := Below.trans hB (Below.mono hb (Below.size hB))
                replace hbb := hbb.below hb hbb.lt
                replace hpc := hpc.below hb hpc.lt
                replace hk := hk.below hb hk.lt
                clear hb
                have z0 := hbb.cell_ 0 rfl
                have z1 := hbb.cell_ 1 rfl
                have z2 := hbb.cell_ 2 rfl
                have z3 := hbb.cell_ 3 rfl
                have z4 := hbb.cell_ 4 rfl
                have x0 := hpc.cell_ 0 rfl
                have x1 := hpc.cell_ 1 rfl
                have x2 := hpc.cell_ 2 rfl
                have x3 := hpc.cell_ 3 rfl
                have x4 := hpc.cell_ 4 rfl
                have x5 := hpc.cell_ 5 rfl
                have x6 := hpc.cell_ 6 rfl
                have x7 := hpc.cell_ 7 rfl
                have k0 := hk.cell_ 0 rfl
                have k1 := hk.cell_ 1 rfl
                have k2 := hk.cell_ 2 rfl
                have k3 := hk.cell_ 3 rfl
                have k4 := hk.cell_ 4 rfl
                clear z0 z1 z2 z3 z4 x0 x1 x2 x3 x4 x5 x6 x7 k0 k1 k2 k3 k4
                go_wp2_with fail
                go_ret
                exact ⟨rfl, hB⟩
end Go.Proofs.Ytnejacogflkmmaa
