/- Parts of the proofs of this seat: Recall, Rf0, Same, RfPut, SameV, SameR. Each part says what it proves; no condition beyond those stated there. -/
import Derived.Sort.OwnSortedInts
import Derived.Lib.RowBridge
import Derived.Test.YtehlbomkldnalaaGreatQ4
import Derived.Test.YtehlbomkldnalaaGreatQ14
import Derived.Test.YtehlbomkldnalaaGreatQ16
import Derived.Test.YtehlbomkldnalaaGreatQ25

/- Recall: the walk. -/
namespace Go.Proofs.YtehlbomkldnalaaGreat
open Go Go.RowKit Go.Sort
theorem map_flat (l : List Int) : l.map (Value.int .i64) = l.flatMap intEnc := by
 induction l with
 | nil => rfl
 | cons x l ih => rw [List.map_cons, List.flatMap_cons, ih]; rfl
/-- an owned list of numbers, as the library's contracts want it, and what lies there when its row is written anew -/
theorem own_row {w : World} {base : Nat} {e : TypeId} {A : Option Addr} {c : Nat} {l : List Int} (h : Own w base e 1 intEnc (.slice A l.length c) l) (hl : l ≠ []) :
  ∃ g, A = some ⟨g, 0, none⟩ ∧ base ≤ g ∧ g < w.heap.size ∧ l.length ≤ c ∧ Holds (Value.int .i64) w g 0 l.toArray ∧ ∀ (ts : List Int) n os (w' : World), ts.length = l.length → w' = grow (putRow (Value.int .i64) (Go.Sort.ahead w n) g 0 ts.toArray) os → w.grownBy w' (some g) ∧ Own w' base e 1 intEnc (.slice A l.length c) ts := by
 rcases h.2 with ⟨_, h2⟩ | ⟨g, cap, cur, h1, h2, h3, h4, h5, h6, h7⟩
 ·exact absurd (List.length_eq_zero_iff.1 h2) hl
 ·injection h1 with h1 _ hc
  subst h1 hc
  have hm : cur.toList.take l.length = l.map (Value.int .i64) := by rw [map_flat, ← h7, Nat.mul_one]
  refine ⟨g, rfl, h2, (Array.getElem?_eq_some_iff.1 h3).1, h4, holds_of_blockI h3 hm, fun ts n os w' hs hw => ?_⟩
  subst hw
  refine ⟨grownBy_sortedI _, ?_⟩
  have ho := ownsRow_sortedI (base := base) (n := n) (os := os) (ss := l) (ts := ts) (cap := c) hs h2 h3 h4 h5 (by rw [h6])
  show World.ownsRow _ _ _ _ _ _ _
  rw [hs, ← map_flat]
  exact ho
def usesF (us : List Int) : List Int := Go.Lib.compact (us.mergeSort fun x y => decide (x ≤ y))
theorem uses_nil : usesF [] = [] := by unfold usesF; rw [uses_same]; rfl
theorem scrapP_pre {s : SS} (h : Inv s) (P : Piece → Bool) (i : Nat) : Inv (scrapP P ((piecesL s).take i) s) ∧ Same s (scrapP P ((piecesL s).take i) s) := by
 have hs := pieces_shows h
 obtain ⟨a1, a2, _⟩ := scrapP_all P ((piecesL s).take i) h (hs.s.sublist (List.take_sublist _ _)) fun x hx => (hs.m x).1 (List.mem_of_mem_take hx)
 exact ⟨a1, a2⟩
theorem pce_at {w : World} {B : Nat} {A : Option Addr} {ps : List Piece} {i : Nat} {x : Piece} (h : Slc Piece.enc 8 w B A ps) (hi : ps[i]? = some x) : ∃ b off, A = some ⟨b, off, none⟩ ∧ b < B ∧
  w.cell? ⟨b, off + i * 8, none⟩ = some (.int .i64 x.id) ∧ w.cell? ⟨b, off + i * 8 + 1, none⟩ = some (.int .i64 x.root) ∧ w.cell? ⟨b, off + i * 8 + 2, none⟩ = some (.int .i64 x.lot) ∧ w.cell? ⟨b, off + i * 8 + 3, none⟩ = some (.int .i64 x.grade) ∧ w.cell? ⟨b, off + i * 8 + 4, none⟩ = some (.int .i64 x.colour) ∧
  w.cell? ⟨b, off + i * 8 + 5, none⟩ = some (.int .i64 x.width) ∧ w.cell? ⟨b, off + i * 8 + 6, none⟩ = some (.int .i64 x.length) ∧ w.cell? ⟨b, off + i * 8 + 7, none⟩ = some (.int .i64 x.use) := by
 obtain ⟨b, off, hA, hb, h0⟩ := h i _ hi
 exact ⟨b, off, hA, hb, h0 0 _ rfl, h0 1 _ rfl, h0 2 _ rfl, h0 3 _ rfl, h0 4 _ rfl, h0 5 _ rfl, h0 6 _ rfl, h0 7 _ rfl⟩
def RecPost (p : Fp) (s : SS) (lot : Int) (w : World) (e : Ending) (w' : World) : Prop :=
 ∃ (A : Option Addr) (c : Nat), e = .returned (.tuple #[.slice A (usesF (recU s lot)).length c, .int .i64 0]) ∧ Slc intEnc 1 w' w'.heap.size A (usesF (recU s lot)) ∧ (∀ ad, A = some ad → w.heap.size ≤ ad.block) ∧ StA w' p (rec2 s lot) ∧ Chg p.has w w'
set_option maxRecDepth 100000 in
theorem recall_bad (p : Fp) (s : SS) (lot : Int) (w : World) (hX : StA w p s) (hl : look s.lots lot = none) : Calls Tryz.prog 32 #[.pointer (some ⟨p.g, 0, none⟩), lot] w fun e w' => e = .returned (.tuple #[.slice none 0 0, .int .i64 5]) ∧ Below w.heap.size w w' := by
 have c5 := hX.blk.cell_ 5 (v := .bool true) rfl
 have c9 := hX.blk.cell_ 9 (v := .map (some p.rl)) rfl
 have lk := hX.lots.look_no (P := Tryz.prog) (t := 65) (z := .agg #[.int .i64 0, .int .i64 0, .int .i64 0]) Tryz.underlying65 Tryz.underlying3 (fun w => by kernel_rfl) (look_kv_none hl) true
 clear hl
 go_enter Tryz.func32, Tryz.ntmps32
 go_wp2_with fail
 refine (none_any p.g _ c5).mono ?_
 rintro e W' ⟨rfl, rfl⟩
 go_wp2_with fail
 go_ret2
 exact ⟨rfl, (Below.refl _ _).alloc (Nat.le_refl _) _⟩
set_option maxRecDepth 100000 in
set_option maxHeartbeats 8000000 in
theorem recall_any (p : Fp) (s : SS) (lot : Int) (w : World) (hX : StA w p s) (hI : Inv s) (hF : Few s) {kn : Kin} (hl : look s.lots lot = some kn) : Calls Tryz.prog 32 #[.pointer (some ⟨p.g, 0, none⟩), lot] w (RecPost p s lot w) := by
 have HI := hide hI
 have HF := hide hF
 have c5 := hX.blk.cell_ 5 (v := .bool true) rfl
 have c9 := hX.blk.cell_ 9 (v := .map (some p.rl)) rfl
 have HLT : Hid (∀ k, p.has k → k < w.heap.size) := fun k hk => hX.lt hk
 have lk := hX.lots.look_yes (P := Tryz.prog) (t := 65) Tryz.underlying65 Tryz.underlying3 (look_kv_some hl) true
 obtain ⟨kg, kc, km⟩ := kn
 unfold Kin.val at lk
 dsimp only at lk
 have hal := (Below.refl w.heap.size w).alloc (Nat.le_refl _) (.cells #[kg, kc, km] 100)
 clear hI hF hl
 go_enter Tryz.func32, Tryz.ntmps32
 go_wp2_with fail
 refine (none_any p.g _ c5).mono ?_
 rintro e W' ⟨rfl, rfl⟩
 clear c5
 replace hX := hX.below hal
 have hC : Chg p.has w (w.alloc (.cells #[kg, kc, km] 100)) := .of_below hal
 have hw0 := hal.size
 go_upto_region 4 with fail
 clear lk c9 hal
 generalize w.alloc (.cells #[kg, kc, km] 100) = w0 at *
 go_wp2_with fail
 refine (items_any p s w0 hX HI.out HF.out).mono ?_
 rintro e w1 ⟨A1, c1, hs, rfl, hS1, hIn, hb1, hA1⟩
 have hX1 := hX.below hb1
 have hC1 : Chg p.has w w1 := hC.trans (.of_below hb1)
 have HA1 : Hid (∀ ad, A1 = some ad → ¬ p.has ad.block) := fun ad ha hh => by have h1 := hA1 ad ha; have h2 := HLT.out _ hh; omega
 obtain ⟨xs, hxs⟩ := nm_ (itemsL s)
 rw [hxs] at hIn
 rw [hxs]
 have HXS := hide hxs
 have hxl : xs.length ≤ 1000000 := by rw [← hxs]; unfold itemsL; rw [vals_len HI.out.ki]; exact HF.out.it
 have HIN := hide hIn
 have hbsz := Nat.le_trans hw0 hb1.size
 have HBS := hide hbsz
 clear hX hC hb1 hA1 hxs hIn hw0
 go_upto_block 7 with fail
 go_loopw [29] (fun z wr => ∃ (i : Nat), z = .int .i64 i ∧ i ≤ xs.length ∧ StA wr p (scrapI (fun x => decide (x.lot = lot)) (xs.take i) s) ∧ Slc SH.enc 9 wr w1.heap.size A1 hs ∧ Chg p.has w wr ∧ w1.heap.size ≤ wr.heap.size) (fun z _ => xs.length - (intOf z).toNat)
 case atStart => exact ⟨0, rfl, Nat.zero_le _, hX1, hS1, hC1, Nat.le_refl _⟩
 case round =>
  obtain ⟨W, rfl⟩ := is_ wr
  obtain ⟨i, rfl, hi, hX, hS, hC, hsz⟩ := hrel
  clear hX1 hS1 hC1
  by_cases hlt : i < xs.length
  ·obtain ⟨x, hx⟩ : ∃ x, xs[i]? = some x := ⟨_, List.getElem?_eq_getElem hlt⟩
   obtain ⟨A, c, hh, _⟩ := HIN.out.at_ hx
   obtain ⟨bS, oS, hAS, hbS, d0, d1, d2, d3, d4, d5, d6, d7, d8⟩ := sh_at hS hh
   have hii : (i : Int) < (xs.length : Int) := by omega
   have ei := wsuc i (by omega)
   obtain ⟨P1, P2⟩ := scrapI_pre HI.out (fun x => decide (x.lot = lot)) i
   rw [HXS.out] at P1 P2
   obtain ⟨t, ht⟩ := nm_ (scrapI (fun x => decide (x.lot = lot)) (xs.take i) s)
   have HTN : Hid (scrapI (fun x => decide (x.lot = lot)) (xs.take (i + 1)) s = if x.lot = lot then scrapF t x.id else t) := by
    show _ = _
    rw [List.take_add_one, hx, Option.toList_some, scrapI_snoc, ht]; simp
   have HFT : Hid (Few t) := by show Few t; rw [← ht]; exact few_scrapI _ _ HF.out
   rw [ht] at hX P1 P2
   have HP1 := hide P1
   subst hAS
   clear ht P1 P2 hx hh
   have hx := Blk.new W 93 ↑(x, A, c)
   have hal := (Below.refl W.heap.size W).alloc (Nat.le_refl _) (.cells ↑(x, A, c) 93)
   replace hX := hX.below hal
   replace hS := hS.below (hal.mono hsz)
   replace hC := hC.trans (.of_below hal)
   have hsz2 : w1.heap.size ≤ (W.alloc (.cells ↑(x, A, c) 93)).heap.size := Nat.le_trans hsz hal.size
   go_upto_region 9 with fail
   clear d0 d1 d2 d3 d4 d5 d6 d7 d8 hal hsz
   generalize W.alloc (.cells ↑(x, A, c) 93) = W3 at *
   generalize W.heap.size = bx at *
   obtain ⟨W, rfl⟩ := is_ W3
   have x0 := hx.cell_ 0 (v := x.id) rfl
   have x4 := hx.cell_ 4 (v := x.lot) rfl
   by_cases hq : x.lot = lot
   ·have HTN2 : Hid (scrapI (fun x => decide (x.lot = lot)) (xs.take (i + 1)) s = scrapF t x.id) := by show _ = _; rw [HTN.out, if_pos hq]
    have hqb : (x.lot == lot) = true := by simp [hq]
    clear hq
    go_wp2_with fail
    refine (scrap_any p t x.id W hX HP1.out HFT.out).mono ?_
    rintro e W7 ⟨rfl, hX7, hC7⟩
    rw [← HTN2.out] at hX7
    replace hS := hS.chgA hC7 hsz2 HA1.out
    replace hC := hC.trans hC7
    replace hsz2 := Nat.le_trans hsz2 hC7.size
    clear hX hx x0 x4 hC7 hqb
    go_wp2_with fail
    go_roundw
    case rel => exact ⟨i + 1, by go_num, by omega, hX7, hS, hC, hsz2⟩
    case measure => simp [intOf]; omega
   ·have HTN2 : Hid (scrapI (fun x => decide (x.lot = lot)) (xs.take (i + 1)) s = t) := by show _ = _; rw [HTN.out, if_neg hq]
    have hqb : (x.lot == lot) = false := by simp [hq]
    rw [← HTN2.out] at hX
    clear hq
    go_wp2_with fail
    go_roundw
    case rel => exact ⟨i + 1, by go_num, by omega, hX, hS, hC, hsz2⟩
    case measure => simp [intOf]; omega
  ·obtain rfl : i = xs.length := by omega
   have HI1 : Hid (Inv (rec1 s lot) ∧ Same s (rec1 s lot)) := by
    have h1 := scrapI_pre HI.out (fun x => decide (x.lot = lot)) xs.length
    rw [HXS.out, List.take_length] at h1
    show Inv _ ∧ Same _ _
    unfold rec1
    rw [HXS.out]; exact h1
   have HF1 : Hid (Few (rec1 s lot)) := by show Few _; unfold rec1; exact few_scrapI _ _ HF.out
   have hX2 : StA W p (rec1 s lot) := by unfold rec1; rw [HXS.out]; rw [List.take_length] at hX; exact hX
   have HPL : Hid (piecesL (rec1 s lot) = piecesL s) := rec1_pieces HI.out lot
   clear hX hS
   go_wp2_with fail
   refine (pieces_any p (rec1 s lot) W hX2 HI1.out.1 HF1.out).mono ?_
   rintro e w2 ⟨A2, c2, rfl, hS2, hb2, hA2⟩
   replace hX2 := hX2.below hb2
   replace hC := hC.trans (.of_below hb2)
   have hBS2 : Hid (w.heap.size ≤ w2.heap.size) := by show _ ≤ _; have h1 := HBS.out; have h2 := hb2.size; omega
   have HA2 : Hid (∀ ad, A2 = some ad → ¬ p.has ad.block) := fun ad ha hh => by have h1 := hA2 ad ha; have h2 := HLT.out _ hh; have h3 := HBS.out; omega
   obtain ⟨ps, hps⟩ := nm_ (piecesL (rec1 s lot))
   rw [hps] at hS2
   rw [hps]
   have HPS := hide hps
   have hpl : ps.length ≤ 1000000 := by rw [← hps]; unfold piecesL; rw [vals_len HI1.out.1.kp]; exact HF1.out.pc
   clear hb2 hA2 hps hsz
   go_upto_block 14 with fail
   go_loopw [10, 45] (fun v z wr => ∃ (i : Nat) (ls : List Int), z = .int .i64 i ∧ i ≤ ps.length ∧ ls.length ≤ i ∧ Hid (ls = ((ps.take i).filter fun x => decide (x.lot = lot) && !decide (x.use = 0)).map (·.use)) ∧ Own wr w2.heap.size 3 1 intEnc v ls ∧ StA wr p (scrapP (fun x => decide (x.lot = lot) && decide (x.use = 0)) (ps.take i) (rec1 s lot)) ∧ Slc Piece.enc 8 wr w2.heap.size A2 ps ∧ Chg p.has w wr ∧ w2.heap.size ≤ wr.heap.size) (fun _ z _ => ps.length - (intOf z).toNat)
   case atStart => exact ⟨0, [], rfl, Nat.zero_le _, Nat.zero_le _, rfl, Own.nil_, hX2, hS2, hC, Nat.le_refl _⟩
   case round =>
    clear hX2 hS2 hC
    obtain ⟨W, rfl⟩ := is_ wr
    obtain ⟨i, ls, rfl, hi, hll, HL, hO, hX, hS, hC, hsz⟩ := hrel
    by_cases hlt : i < ps.length
    ·obtain ⟨x, hx⟩ : ∃ x, ps[i]? = some x := ⟨_, List.getElem?_eq_getElem hlt⟩
     obtain ⟨bS, oS, hAS, hbS, d0, d1, d2, d3, d4, d5, d6, d7⟩ := pce_at hS hx
     have hii : (i : Int) < (ps.length : Int) := by omega
     have ei := wsuc i (by omega)
     obtain ⟨P1, P2⟩ := scrapP_pre HI1.out.1 (fun x => decide (x.lot = lot) && decide (x.use = 0)) i
     rw [HPS.out] at P1 P2
     obtain ⟨t, ht⟩ := nm_ (scrapP (fun x => decide (x.lot = lot) && decide (x.use = 0)) (ps.take i) (rec1 s lot))
     have HTN : Hid (scrapP (fun x => decide (x.lot = lot) && decide (x.use = 0)) (ps.take (i + 1)) (rec1 s lot) = if (decide (x.lot = lot) && decide (x.use = 0)) then scrapF t x.id else t) := by
      show _ = _
      rw [List.take_add_one, hx, Option.toList_some, scrapP_snoc, ht]
     have HLN : Hid (((ps.take (i + 1)).filter fun x => decide (x.lot = lot) && !decide (x.use = 0)).map (·.use) = ls ++ if (decide (x.lot = lot) && !decide (x.use = 0)) then [x.use] else []) := by
      show _ = _
      rw [List.take_add_one, hx, Option.toList_some, List.filter_append, List.map_append, HL.out]
      cases hq : (decide (x.lot = lot) && !decide (x.use = 0)) with
      | true => rw [if_pos rfl, List.filter_cons_of_pos (by simpa using hq)]; rfl
      | false => rw [if_neg (by decide), List.filter_cons_of_neg (by rw [hq]; decide)]; rfl
     have HFT : Hid (Few t) := by show Few t; rw [← ht]; exact few_scrapP _ _ HF1.out
     rw [ht] at hX P1 P2
     have HP1 := hide P1
     subst hAS
     clear ht P1 P2 hx
     have hx := Blk.new W 96 ↑x
     have hal := (Below.refl W.heap.size W).alloc (Nat.le_refl _) (.cells ↑x 96)
     replace hX := hX.below hal
     replace hO := hO.below hal
     replace hS := hS.below (hal.mono hsz)
     replace hC := hC.trans (.of_below hal)
     have hsz2 : w2.heap.size ≤ (W.alloc (.cells ↑x 96)).heap.size := Nat.le_trans hsz hal.size
     go_upto_region 17 with fail
     clear d0 d1 d2 d3 d4 d5 d6 d7 hal hsz
     generalize W.alloc (.cells ↑x 96) = W3 at *
     generalize W.heap.size = bx at *
     obtain ⟨W, rfl⟩ := is_ W3
     have x0 := hx.cell_ 0 (v := x.id) rfl
     have x2 := hx.cell_ 2 (v := x.lot) rfl
     have x7 := hx.cell_ 7 (v := x.use) rfl
     have HLB : Hid (∀ k, p.has k → k < w2.heap.size) := fun k hk => by have h1 := HLT.out k hk; have h2 := hBS2.out; omega
     by_cases hq : x.lot = lot
     ·have hqb : (x.lot != lot) = false := by simp [hq]
      by_cases hu : x.use = 0
      ·have hub : (x.use == 0) = true := by simp [hu]
       have HTN2 : Hid (scrapP (fun x => decide (x.lot = lot) && decide (x.use = 0)) (ps.take (i + 1)) (rec1 s lot) = scrapF t x.id) := by show _ = _; rw [HTN.out, decide_eq_true hq, decide_eq_true hu]; rfl
       have HLN2 : Hid (ls = ((ps.take (i + 1)).filter fun x => decide (x.lot = lot) && !decide (x.use = 0)).map (·.use)) := by show _ = _; rw [HLN.out, decide_eq_true hq, decide_eq_true hu]; simp
       clear hq hu
       go_wp2_with fail
       refine (scrap_any p t x.id W hX HP1.out HFT.out).mono ?_
       rintro e W7 ⟨rfl, hX7, hC7⟩
       rw [← HTN2.out] at hX7
       replace hO := hO.chgN hC7 fun k hk hh => by have h1 := HLB.out k hh; have h2 := own_base hO k hk; omega
       replace hS := hS.chgA hC7 hsz2 HA2.out
       replace hC := hC.trans hC7
       replace hsz2 := Nat.le_trans hsz2 hC7.size
       clear hX hx x0 x2 x7 hC7 hqb hub
       go_wp2_with fail
       go_roundw
       case rel => exact ⟨i + 1, ls, by go_num, by omega, by omega, HLN2, hO, hX7, hS, hC, hsz2⟩
       case measure => simp [intOf]; omega
      ·have hub : (x.use == 0) = false := by simp [hu]
       have HTN2 : Hid (scrapP (fun x => decide (x.lot = lot) && decide (x.use = 0)) (ps.take (i + 1)) (rec1 s lot) = t) := by show _ = _; rw [HTN.out, decide_eq_true hq, decide_eq_false hu]; rfl
       have HLN2 : Hid (ls ++ [x.use] = ((ps.take (i + 1)).filter fun x => decide (x.lot = lot) && !decide (x.use = 0)).map (·.use)) := by show _ = _; rw [HLN.out, decide_eq_true hq, decide_eq_false hu]; rfl
       rw [← HTN2.out] at hX
       clear hq hu
       go_wp2_with (at_builtin; refine wpList_app_own (base := w2.heap.size) (f := intEnc) (ys := [x.use]) _ _ rfl rfl et_ints (hO.alloc _) rfl rfl ((Blk.new W 3 #[x.use]).slc1 rfl) rfl (fun _ => rfl) intEnc_one (by simp <;> omega) (by simp <;> omega) ?_; intro v6 W6 hO6 hb6 hg6)
       have hal := (Below.refl W.heap.size W).alloc (Nat.le_refl _) (.cells #[x.use] 3)
       replace hX := (hX.below hal).grownO (hO.alloc _) (by decide) HLB.out hg6
       replace hC := (hC.trans (.of_below hal)).grownO (hO.alloc _) hBS2.out hg6
       replace hS := (hS.below (hal.mono hsz2)).below hb6
       replace hsz2 := Nat.le_trans (Nat.le_trans hsz2 hal.size) hb6.size
       clear hO hx hal hb6 hg6 x0 x2 x7 hqb hub
       go_roundw
       case rel => exact ⟨i + 1, ls ++ [x.use], by go_num, by omega, by simp; omega, HLN2, hO6, hX, hS, hC, hsz2⟩
       case measure => simp [intOf]; omega
     ·have hqb : (x.lot != lot) = true := by simp [hq]
      have HTN2 : Hid (scrapP (fun x => decide (x.lot = lot) && decide (x.use = 0)) (ps.take (i + 1)) (rec1 s lot) = t) := by show _ = _; rw [HTN.out, decide_eq_false hq]; rfl
      have HLN2 : Hid (ls = ((ps.take (i + 1)).filter fun x => decide (x.lot = lot) && !decide (x.use = 0)).map (·.use)) := by show _ = _; rw [HLN.out, decide_eq_false hq]; simp
      rw [← HTN2.out] at hX
      clear hq hx
      go_wp2_with fail
      go_roundw
      case rel => exact ⟨i + 1, ls, by go_num, by omega, by omega, HLN2, hO, hX, hS, hC, hsz2⟩
      case measure => simp [intOf]; omega
    ·obtain rfl : i = ps.length := by omega
     have HE : Hid (recU s lot = ls) := by show _ = _; unfold recU; rw [← HPL.out, HPS.out, HL.out, List.take_length]
     have hX9 : StA W p (rec2 s lot) := by unfold rec2; rw [← HPL.out, HPS.out]; rw [List.take_length] at hX; exact hX
     have HLB : Hid (∀ k, p.has k → k < w2.heap.size) := fun k hk => by have h1 := HLT.out k hk; have h2 := hBS2.out; omega
     obtain ⟨A, c, rfl, _⟩ := hO.form (fun _ => rfl)
     have HOF := hide (hO.from_ hBS2.out)
     clear hX hS
     by_cases hne : ls = []
     ·subst hne
      go_wp2_with fail
      refine (AnyM.slices_Sort_int_none sortILays A c W).mono ?_
      rintro e W8 ⟨rfl, rfl⟩
      go_wp2_with fail
      refine (Any.slices_Compact_int_empty compILays A c _).mono ?_
      rintro e W8 ⟨rfl, rfl⟩
      go_wp2_with fail
      go_ret2
      exact ⟨A, c, by rw [HE.out, uses_nil]; rfl, by rw [HE.out, uses_nil]; exact Slc.nil_, HOF.out, hX9, hC⟩
     ·obtain ⟨g, rfl, hg, hgl, hcap, hH, hSO⟩ := own_row hO hne
      have hnp : ¬ p.has g := fun hh => by have := HLB.out g hh; omega
      have hns : NoSpan W g := NoSpan.own hO (by decide) rfl
      obtain ⟨ts, hts⟩ := nm_ ((ls.mergeSort fun x y => decide (x ≤ y)))
      have hlen : ts.length = ls.length := by rw [← hts, List.length_mergeSort]
      have HTS := hide hts
      go_wp2_with fail
      refine (AnyM.slices_Sort_int sortILays g 0 c ls W hH hgl (by omega)).mono ?_
      rintro e W5 ⟨rfl, n, os, hw⟩
      rw [hts] at hw
      obtain ⟨hgr, hO5⟩ := hSO ts n os W5 hlen hw
      have hX5 := hX9.far (S := fun k => k = g) (.of_grown hgr rfl) (fun k hk => by subst hk; exact ⟨hnp, hns⟩)
      have hC5 : Chg p.has w W5 := hC.trans' (.of_grown (S := fun k => k = g) hgr rfl) (fun k hk he => by have := hBS2.out; omega)
      have hne5 : ts ≠ [] := fun h => by rw [h] at hlen; exact hne (List.length_eq_zero_iff.1 hlen.symm)
      have hns5 : NoSpan W5 g := NoSpan.own hO5 (by decide) rfl
      rw [← hlen] at hO5
      obtain ⟨g', hg', _, hgl5, hcap5, hH5, hSO5⟩ := own_row hO5 hne5
      obtain rfl : g = g' := by injection hg' with hg'; injection hg'
      have hcp := Any.slices_Compact_int compILays g 0 c ts W5 hH5 (by omega) hcap5
      rw [hlen] at hcp
      have HL5 := hide hlen
      have HSO5 := hide hSO5
      clear hw hSO hH hO hX9 hC hgr hO5 hts hlen hSO5 hg' hH5
      go_wp2_with fail
      refine hcp.mono ?_
      rintro e W6 ⟨rfl, q, hw6⟩
      have hcl : (Go.Lib.compact ts).length ≤ ts.length := Go.Lib.compact_length_le ts
      obtain ⟨hgr6, hO6⟩ := HSO5.out (Go.Lib.compact ts ++ List.replicate (ls.length - (Go.Lib.compact ts).length) 0) q #[] W6 (by rw [List.length_append, List.length_replicate]; have := HL5.out; omega) (by rw [hw6, grow_empty])
      have hX6 := hX5.far (S := fun k => k = g) (.of_grown hgr6 rfl) (fun k hk => by subst hk; exact ⟨hnp, hns5⟩)
      have hC6 : Chg p.has w W6 := hC5.trans' (.of_grown (S := fun k => k = g) hgr6 rfl) (fun k hk he => by have := hBS2.out; omega)
      obtain ⟨A6, c6, he6, hsl6⟩ := hO6.form (fun _ => rfl)
      have hA6 : A6 = some ⟨g, 0, none⟩ := by injection he6 with he6; exact he6.symm
      rw [hA6] at hsl6
      have hsl7 : Slc intEnc 1 W6 W6.heap.size (some ⟨g, 0, none⟩) (Go.Lib.compact ts) := fun i x hx => hsl6 i x (by rw [List.getElem?_append_left (List.getElem?_eq_some_iff.1 hx).1]; exact hx)
      have HU : Hid (usesF (recU s lot) = Go.Lib.compact ts) := by show _ = _; unfold usesF; rw [HE.out, HTS.out]
      clear hw6 hcp hgr6 hO6 hX5 hC5 he6 hA6 hsl6
      go_wp2_with fail
      go_ret2
      exact ⟨some ⟨g, 0, none⟩, c, by rw [HU.out]; rfl, by rw [HU.out]; exact hsl7, HOF.out, hX6, hC6⟩
end Go.Proofs.YtehlbomkldnalaaGreat

/- The reference's store in memory. -/
namespace Go.Proofs.YtehlbomkldnalaaGreat
open Go Go.RowKit
/-- a roll as it lies in a list -/
structure RH where
 id : Int
 gr : Int
 co : Int
 lo : Int
 ma : Int
 wi : Int
 le : Int
 A : Option Addr
 n : Nat
 c : Nat
instance : Inhabited RH := ⟨⟨0, 0, 0, 0, 0, 0, 0, none, 0, 0⟩⟩
def RH.enc (x : RH) : List Value := [.int .i64 x.id, .int .i64 x.gr, .int .i64 x.co, .int .i64 x.lo, .int .i64 x.ma, .int .i64 x.wi, .int .i64 x.le, .slice x.A x.n x.c]
theorem rh_len : ∀ h : RH, h.enc.length = 8 := fun _ => rfl
theorem rh_one : ∀ h : RH, ∀ u ∈ h.enc, u.oneCell' = true := fun h u hu => by
 simp [RH.enc] at hu
 rcases hu with rfl | rfl | rfl | rfl | rfl | rfl | rfl | rfl <;> rfl
def lkEnc (p : Int × Int) : List Value := [.int .i64 p.1, .int .i64 p.2]
theorem lk_len : ∀ h : Int × Int, (lkEnc h).length = 2 := fun _ => rfl
theorem lk_one : ∀ h : Int × Int, ∀ u ∈ lkEnc h, u.oneCell' = true := fun h u hu => by
 simp [lkEnc] at hu
 rcases hu with rfl | rfl <;> rfl
/-- the reference's store -/
structure RS where
 rules : Shelf
 rolls : List RH
 items : List Sheet
 pieces : List Piece
 links : List (Int × Int)
/-- its value -/
structure RV where
 mw : Int
 ml : Int
 l0 : Int
 l1 : Int
 l2 : Int
 Ar : Option Addr
 nr : Nat
 cr : Nat
 Ai : Option Addr
 ni : Nat
 ci : Nat
 Ap : Option Addr
 np : Nat
 cp : Nat
 Al : Option Addr
 nl : Nat
 cl : Nat
instance : CoeOut RV (Array Value) := ⟨fun v => #[.int .i64 v.mw, .int .i64 v.ml, .int .i64 v.l0, .int .i64 v.l1, .int .i64 v.l2, .slice v.Ar v.nr v.cr, .slice v.Ai v.ni v.ci, .slice v.Ap v.np v.cp, .slice v.Al v.nl v.cl]⟩
/-- a list of which no block is one of P's -/
def Offs {α : Type} (P : Nat → Prop) (A : Option Addr) (xs : List α) : Prop := xs ≠ [] → ∀ ad, A = some ad → ¬ P ad.block
def RsV (w : World) (P : Nat → Prop) (x : Sheet) (h : SH) : Prop := ∃ A c, h = SH.of x A c ∧ Slc Pt.enc 2 w w.heap.size A x.faults ∧ Offs P A x.faults
structure RsIn (w : World) (P : Nat → Prop) (hs : List SH) (xs : List Sheet) : Prop where
 len : hs.length = xs.length
 ok : ∀ (i : Nat) x h, xs[i]? = some x → hs[i]? = some h → RsV w P x h
structure RAt (w : World) (P : Nat → Prop) (v : RV) (r : RS) : Prop where
 ru : r.rules = ⟨v.mw, v.ml, v.l0, v.l1, v.l2⟩
 nr : v.nr = r.rolls.length
 ni : v.ni = r.items.length
 np : v.np = r.pieces.length
 nl : v.nl = r.links.length
 rolls : Slc RH.enc 8 w w.heap.size v.Ar r.rolls
 items : ∃ hs, Slc SH.enc 9 w w.heap.size v.Ai hs ∧ RsIn w P hs r.items
 pieces : Slc Piece.enc 8 w w.heap.size v.Ap r.pieces
 links : Slc lkEnc 2 w w.heap.size v.Al r.links
 fr : Offs P v.Ar r.rolls
 fi : Offs P v.Ai r.items
 fp : Offs P v.Ap r.pieces
 fl : Offs P v.Al r.links
section
variable {α : Type} {enc : α → List Value} {sz : Nat} {w w' : World} {P P' : Nat → Prop} {A : Option Addr} {xs : List α}
theorem Slc.chgO (h : Slc enc sz w w.heap.size A xs) (hc : Chg P w w') (ho : Offs P A xs) : Slc enc sz w' w'.heap.size A xs := fun i x hx => by
 obtain ⟨b, off, rfl, hb, hcell⟩ := h i x hx
 refine ⟨b, off, rfl, Nat.lt_of_lt_of_le hb hc.size, fun j v hv => (World.cell?_of_block (hc.block b hb ?_)).trans (hcell j v hv)⟩
 exact ho (by rintro e; rw [e] at hx; simp at hx) _ rfl
theorem Offs.more (ho : Offs P A xs) (h : Slc enc sz w w.heap.size A xs) (hP : ∀ k, P' k → P k ∨ w.heap.size ≤ k) : Offs P' A xs := fun hne ad ha hp => by
 rcases hP _ hp with h1 | h1
 ·exact ho hne ad ha h1
 ·cases xs with
  | nil => exact hne rfl
  | cons x l =>
   obtain ⟨b, off, hA, hb, _⟩ := h 0 x rfl
   rw [ha] at hA
   injection hA with hA
   rw [hA] at h1
   have h1 : w.heap.size ≤ b := h1
   omega
theorem Offs.new (h : ∀ ad, A = some ad → w.heap.size ≤ ad.block) (hP : ∀ k, P k → k < w.heap.size) : Offs P A xs := fun _ ad ha hp => by
 have h1 := h ad ha
 have h2 := hP _ hp
 omega
theorem RsV.chg {x : Sheet} {h : SH} (k : RsV w P x h) (hc : Chg P w w') : RsV w' P x h := by
 obtain ⟨A, c, h1, h2, h3⟩ := k
 exact ⟨A, c, h1, h2.chgO hc h3, h3⟩
theorem RsV.below {x : Sheet} {h : SH} (k : RsV w P x h) (hb : Below w.heap.size w w') : RsV w' P x h := k.chg (.of_below hb)
theorem RsV.more {x : Sheet} {h : SH} (k : RsV w P x h) (hP : ∀ k, P' k → P k ∨ w.heap.size ≤ k) : RsV w P' x h := by
 obtain ⟨A, c, h1, h2, h3⟩ := k
 exact ⟨A, c, h1, h2, h3.more h2 hP⟩
theorem RsV.slc {x : Sheet} {A : Option Addr} {c : Nat} (h : RsV w P x (SH.of x A c)) : Slc Pt.enc 2 w w.heap.size A x.faults ∧ Offs P A x.faults := by
 obtain ⟨A', c', he, h1, h2⟩ := h
 unfold SH.of at he
 simp at he
 rw [he.1]; exact ⟨h1, h2⟩
variable {hs : List SH} {ys : List Sheet}
theorem RsIn.chg (k : RsIn w P hs ys) (hc : Chg P w w') : RsIn w' P hs ys := ⟨k.len, fun i x h hx hh => (k.ok i x h hx hh).chg hc⟩
theorem RsIn.below (k : RsIn w P hs ys) (hb : Below w.heap.size w w') : RsIn w' P hs ys := k.chg (.of_below hb)
theorem RsIn.more (k : RsIn w P hs ys) (hP : ∀ k, P' k → P k ∨ w.heap.size ≤ k) : RsIn w P' hs ys := ⟨k.len, fun i x h hx hh => (k.ok i x h hx hh).more hP⟩
theorem RsIn.nil_ (w : World) (P : Nat → Prop) : RsIn w P [] [] := ⟨rfl, fun i x h hx => by simp at hx⟩
theorem RsIn.snoc (k : RsIn w P hs ys) {x : Sheet} {h : SH} (hx : RsV w P x h) : RsIn w P (hs ++ [h]) (ys ++ [x]) :=
 ⟨by rw [List.length_append, List.length_append, k.len]; rfl, fun i y j hy hj => by
  rcases Nat.lt_or_ge i hs.length with hi | hi
  ·rw [List.getElem?_append_left hi] at hj
   rw [List.getElem?_append_left (by rw [← k.len]; exact hi)] at hy
   exact k.ok i y j hy hj
  ·rw [List.getElem?_append_right hi] at hj
   rw [List.getElem?_append_right (by rw [← k.len]; exact hi), ← k.len] at hy
   have hz : i - hs.length = 0 := by
    have := (List.getElem?_eq_some_iff.1 hj).1
    simp at this; omega
   rw [hz] at hy hj
   simp at hy hj
   subst hy hj
   exact hx⟩
theorem RsIn.at_ (k : RsIn w P hs ys) {i : Nat} {x : Sheet} (hx : ys[i]? = some x) : ∃ A c, hs[i]? = some (SH.of x A c) ∧ RsV w P x (SH.of x A c) := by
 have hi : i < hs.length := by rw [k.len]; exact (List.getElem?_eq_some_iff.1 hx).1
 have h1 := List.getElem?_eq_getElem hi
 have h2 := k.ok i x _ hx h1
 obtain ⟨A, c, h3, h4⟩ := h2
 exact ⟨A, c, by rw [h1, h3], A, c, rfl, h4⟩
variable {v : RV} {r : RS}
theorem RAt.chg (h : RAt w P v r) (hc : Chg P w w') : RAt w' P v r := by
 obtain ⟨hs, h1, h2⟩ := h.items
 exact ⟨h.ru, h.nr, h.ni, h.np, h.nl, h.rolls.chgO hc h.fr, ⟨hs, h1.chgO hc (fun hne => h.fi (by rintro e; rw [e] at h2; have := h2.len; exact hne (List.length_eq_zero_iff.1 this))), h2.chg hc⟩, h.pieces.chgO hc h.fp, h.links.chgO hc h.fl, h.fr, h.fi, h.fp, h.fl⟩
theorem RAt.below (h : RAt w P v r) (hb : Below w.heap.size w w') : RAt w' P v r := h.chg (.of_below hb)
theorem RAt.more (h : RAt w P v r) (hP : ∀ k, P' k → P k ∨ w.heap.size ≤ k) : RAt w P' v r := by
 obtain ⟨hs, h1, h2⟩ := h.items
 refine ⟨h.ru, h.nr, h.ni, h.np, h.nl, h.rolls, ⟨hs, h1, h2.more hP⟩, h.pieces, h.links, h.fr.more h.rolls hP, ?_, h.fp.more h.pieces hP, h.fl.more h.links hP⟩
 have h3 : Offs P v.Ai hs := fun hne => h.fi (by rintro e; rw [e] at h2; have := h2.len; exact hne (List.length_eq_zero_iff.1 this))
 have h4 := h3.more h1 hP
 exact fun hne => h4 (by rintro e; rw [e] at h2; have := h2.len; exact hne (List.length_eq_zero_iff.1 this.symm))
/-- other items -/
theorem RAt.put_items (h : RAt w P v r) (hb : Below w.heap.size w w') (hP : ∀ k, P k → k < w.heap.size) {A : Option Addr} {n c : Nat} {hs : List SH} {ys : List Sheet} (hn : n = ys.length) (hS : Slc SH.enc 9 w' w'.heap.size A hs) (hI : RsIn w' P hs ys) (hA : ∀ ad, A = some ad → w.heap.size ≤ ad.block) :
  RAt w' P { v with Ai := A, ni := n, ci := c } { r with items := ys } := by
 have h' := h.below hb
 exact ⟨h'.ru, h'.nr, hn, h'.np, h'.nl, h'.rolls, ⟨hs, hS, hI⟩, h'.pieces, h'.links, h'.fr, Offs.new hA hP, h'.fp, h'.fl⟩
theorem RAt.put_pieces (h : RAt w P v r) (hb : Below w.heap.size w w') (hP : ∀ k, P k → k < w.heap.size) {A : Option Addr} {n c : Nat} {ys : List Piece} (hn : n = ys.length) (hS : Slc Piece.enc 8 w' w'.heap.size A ys) (hA : ∀ ad, A = some ad → w.heap.size ≤ ad.block) :
  RAt w' P { v with Ap := A, np := n, cp := c } { r with pieces := ys } := by
 have h' := h.below hb
 exact ⟨h'.ru, h'.nr, h'.ni, hn, h'.nl, h'.rolls, h'.items, hS, h'.links, h'.fr, h'.fi, Offs.new hA hP, h'.fl⟩
theorem RAt.put_links (h : RAt w P v r) (hb : Below w.heap.size w w') (hP : ∀ k, P k → k < w.heap.size) {A : Option Addr} {n c : Nat} {ys : List (Int × Int)} (hn : n = ys.length) (hS : Slc lkEnc 2 w' w'.heap.size A ys) (hA : ∀ ad, A = some ad → w.heap.size ≤ ad.block) :
  RAt w' P { v with Al := A, nl := n, cl := c } { r with links := ys } := by
 have h' := h.below hb
 exact ⟨h'.ru, h'.nr, h'.ni, h'.np, hn, h'.rolls, h'.items, h'.pieces, hS, h'.fr, h'.fi, h'.fp, Offs.new hA hP⟩
theorem RAt.put_rolls (h : RAt w P v r) (hb : Below w.heap.size w w') (hP : ∀ k, P k → k < w.heap.size) {A : Option Addr} {n c : Nat} {ys : List RH} (hn : n = ys.length) (hS : Slc RH.enc 8 w' w'.heap.size A ys) (hA : ∀ ad, A = some ad → w.heap.size ≤ ad.block) :
  RAt w' P { v with Ar := A, nr := n, cr := c } { r with rolls := ys } := by
 have h' := h.below hb
 exact ⟨h'.ru, hn, h'.ni, h'.np, h'.nl, hS, h'.items, h'.pieces, h'.links, Offs.new hA hP, h'.fi, h'.fp, h'.fl⟩
end
theorem lk_at {w : World} {B : Nat} {A : Option Addr} {xs : List (Int × Int)} {k : Nat} {x : Int × Int} (h : Slc lkEnc 2 w B A xs) (hx : xs[k]? = some x) :
  ∃ b off, A = some ⟨b, off, none⟩ ∧ b < B ∧ w.cell? ⟨b, off + k * 2, none⟩ = some (.int .i64 x.1) ∧ w.cell? ⟨b, off + k * 2 + 1, none⟩ = some (.int .i64 x.2) := h.at2 hx rfl
theorem rh_at {w : World} {B : Nat} {A : Option Addr} {ps : List RH} {i : Nat} {x : RH} (h : Slc RH.enc 8 w B A ps) (hi : ps[i]? = some x) : ∃ b off, A = some ⟨b, off, none⟩ ∧ b < B ∧
  w.cell? ⟨b, off + i * 8, none⟩ = some (.int .i64 x.id) ∧ w.cell? ⟨b, off + i * 8 + 1, none⟩ = some (.int .i64 x.gr) ∧ w.cell? ⟨b, off + i * 8 + 2, none⟩ = some (.int .i64 x.co) ∧ w.cell? ⟨b, off + i * 8 + 3, none⟩ = some (.int .i64 x.lo) ∧ w.cell? ⟨b, off + i * 8 + 4, none⟩ = some (.int .i64 x.ma) ∧
  w.cell? ⟨b, off + i * 8 + 5, none⟩ = some (.int .i64 x.wi) ∧ w.cell? ⟨b, off + i * 8 + 6, none⟩ = some (.int .i64 x.le) ∧ w.cell? ⟨b, off + i * 8 + 7, none⟩ = some (.slice x.A x.n x.c) := by
 obtain ⟨b, off, hA, hb, h0⟩ := h i _ hi
 exact ⟨b, off, hA, hb, h0 0 _ rfl, h0 1 _ rfl, h0 2 _ rfl, h0 3 _ rfl, h0 4 _ rfl, h0 5 _ rfl, h0 6 _ rfl, h0 7 _ rfl⟩
theorem find_drop {α : Type} {M : List α} {i : Nat} {x : α} (hx : M[i]? = some x) (f : α → Bool) : (M.drop i).find? f = if f x then some x else (M.drop (i + 1)).find? f := by
 obtain ⟨h1, h2⟩ := List.getElem?_eq_some_iff.1 hx
 rw [List.drop_eq_getElem_cons h1, h2, List.find?_cons]
 cases f x <;> rfl
theorem look_drop {V : Type} {M : List (Int × V)} {i : Nat} {x : Int × V} (hx : M[i]? = some x) (k : Int) : look (M.drop i) k = if x.1 = k then some x.2 else look (M.drop (i + 1)) k := by
 obtain ⟨h1, h2⟩ := List.getElem?_eq_some_iff.1 hx
 rw [List.drop_eq_getElem_cons h1, h2, look_cons]
theorem et_link : ElemT Tryz.prog 36 135 2 := elemT_mk Tryz.underlying36 (z := .agg #[.int .i64 0, .int .i64 0]) (bytes := 16) (by kernel_rfl) rfl (by omega) (by omega)
theorem et_roll : ElemT Tryz.prog 33 43 8 := elemT_mk Tryz.underlying33 (z := .agg ↑zlA) (bytes := 80) (by kernel_rfl) rfl (by omega) (by omega)
end Go.Proofs.YtehlbomkldnalaaGreat

/- SameInts of the laws, Put of the reference: the walks. -/
namespace Go.Proofs.YtehlbomkldnalaaGreat
open Go Go.RowKit
def eqL (a b : List Int) : Bool := decide (a = b)
theorem eqL_drop {a b : List Int} {i : Nat} {x y : Int} (hx : a[i]? = some x) (hy : b[i]? = some y) : eqL (a.drop i) (b.drop i) = if x = y then eqL (a.drop (i + 1)) (b.drop (i + 1)) else false := by
 obtain ⟨h1, h2⟩ := List.getElem?_eq_some_iff.1 hx
 obtain ⟨h3, h4⟩ := List.getElem?_eq_some_iff.1 hy
 unfold eqL
 rw [List.drop_eq_getElem_cons h1, List.drop_eq_getElem_cons h3, h2, h4]
 by_cases h : x = y
 ·rw [if_pos h, h]; simp
 ·rw [if_neg h]; simp [h]
set_option maxRecDepth 100000 in
theorem sameInts_any (A : Option Addr) (cA : Nat) (a : List Int) (B : Option Addr) (cB : Nat) (b : List Int) (w : World) (hA : Slc intEnc 1 w w.heap.size A a) (hB : Slc intEnc 1 w w.heap.size B b) (hl : a.length ≤ 1000000) :
  Calls Tryz.prog 20 #[.slice A a.length cA, .slice B b.length cB] w fun e w' => e = .returned (.bool (eqL a b)) ∧ Below w.heap.size w w' := by
 have G : ∀ W, Below w.heap.size w W → Calls Tryz.prog 20 #[.slice A a.length cA, .slice B b.length cB] W fun e w' => e = .returned (.bool (eqL a b)) ∧ Below w.heap.size w w' := by
  intro W hBl
  by_cases hll : a.length = b.length
  ·have HLL := hide hll
   have hne : ((a.length : Int) != (b.length : Int)) = false := by simp [hll]
   clear hll
   go_enter Tryz.func20, Tryz.ntmps20
   go_wp2_with fail
   go_loopw [5] (fun y W => ∃ (i : Nat), y = .int .i64 i ∧ i ≤ a.length ∧ Hid (eqL a b = eqL (a.drop i) (b.drop i)) ∧ Below w.heap.size w W) (fun y _ => a.length - (intOf y).toNat)
   case atStart => exact ⟨0, rfl, Nat.zero_le _, hide rfl, hBl⟩
   case round =>
    clear hBl
    obtain ⟨W, rfl⟩ := is_ wr
    obtain ⟨i, rfl, hi, HC, hBl⟩ := hrel
    by_cases hlt : i < a.length
    ·obtain ⟨x, b1, off1, hx, hA1, _, d0⟩ := ints_at' (hA.below hBl) hlt
     obtain ⟨y, b2, off2, hy, hB1, _, d1⟩ := ints_at' (hB.below hBl) (show i < b.length by rw [← HLL.out]; exact hlt)
     have hii : (i : Int) < (a.length : Int) := by omega
     have hjj : (i : Int) < (b.length : Int) := by have := HLL.out; omega
     have HD := hide (eqL_drop hx hy)
     clear hx hy
     subst hA1 hB1
     by_cases h0 : x = y
     ·have hn2 : (x != y) = false := by simp [h0]
      have HC2 : Hid (eqL a b = eqL (a.drop (i + 1)) (b.drop (i + 1))) := by show _ = _; rw [HC.out, HD.out, if_pos h0]
      clear h0
      go_wp2_with fail
      refine wp_region_q (by kernel_rfl) (by kernel_rfl) ?_
      dsimp only
      obtain ⟨y_d0, y_d1⟩ := Since.c2 d0 d1
      repeat (go_big_quiet_step ((fail)))
      refine wpQuiet_nil ?_
      rintro W ⟨⟨_, hb⟩, rfl⟩
      try dsimp only at hb ⊢
      replace d0 := sat y_d0 hb
      replace d1 := sat y_d1 hb
      clear y_d0 y_d1
      replace hBl := hBl.trans (hb.mono hBl.size)
      clear hb
      go_wp2_with fail
      go_roundw
      case rel => exact ⟨i + 1, by go_num, by omega, HC2, hBl⟩
      case measure => simp [intOf]; omega
     ·have hn2 : (x != y) = true := by simp [h0]
      have HC2 : Hid (eqL a b = false) := by show _ = _; rw [HC.out, HD.out, if_neg h0]
      clear h0
      go_wp2_with fail
      refine wp_region_q (by kernel_rfl) (by kernel_rfl) ?_
      dsimp only
      obtain ⟨y_d0, y_d1⟩ := Since.c2 d0 d1
      repeat (go_big_quiet_step ((fail)))
      refine wpQuiet_nil ?_
      rintro W ⟨⟨_, hb⟩, rfl⟩
      try dsimp only at hb ⊢
      replace d0 := sat y_d0 hb
      replace d1 := sat y_d1 hb
      clear y_d0 y_d1
      replace hBl := hBl.trans (hb.mono hBl.size)
      clear hb
      go_wp2_with fail
      go_ret
      exact ⟨ret_bool HC2.out.symm, hBl⟩
    ·obtain rfl : i = a.length := by omega
     have HC2 : Hid (eqL a b = true) := by
      show _ = _
      rw [HC.out, List.drop_length, List.drop_of_length_le (by rw [HLL.out]; exact Nat.le_refl _)]; rfl
     go_wp2_with fail
     go_ret
     exact ⟨ret_bool HC2.out.symm, hBl⟩
  ·have HC2 : Hid (eqL a b = false) := by
    show _ = _
    unfold eqL
    exact decide_eq_false fun h => hll (by rw [h])
   have hne : ((a.length : Int) != (b.length : Int)) = true := by simp; omega
   clear hll
   go_enter Tryz.func20, Tryz.ntmps20
   go_wp2_with fail
   go_ret
   exact ⟨ret_bool HC2.out.symm, hBl⟩
 exact G w (Below.refl _ _)
def gtI (n y : Int) : Bool := decide (n < y)
end Go.Proofs.YtehlbomkldnalaaGreat

/- Put of the reference, and where its list lies: the walk. -/
namespace Go.Proofs.YtehlbomkldnalaaGreat
open Go Go.RowKit
set_option maxRecDepth 100000 in
set_option maxHeartbeats 2000000 in
theorem put2_any (A : Option Addr) (c : Nat) (l : List Int) (n : Int) (w : World) (hS : Slc intEnc 1 w w.heap.size A l) (hl : l.length ≤ 1000000) :
  Calls Tryz.prog 66 #[.slice A l.length c, n] w fun e w' => ∃ A' c', e = .returned (.slice A' (putU l n).length c') ∧ Slc intEnc 1 w' w'.heap.size A' (putU l n) ∧ Below w.heap.size w w' ∧ (A' = A ∨ ∀ ad, A' = some ad → w.heap.size ≤ ad.block) := by
 go_enter Tryz.func66, Tryz.ntmps66
 go_upto_region 4 with fail
 go_loopw [5, 6, 7] (fun v pv z wr => ∃ (i : Nat) (ls : List Int) (b : Bool), z = .int .i64 i ∧ pv = .bool b ∧ i ≤ l.length ∧ Hid (ls = insAt (gtI n) n (l.take i) ∧ ls.length ≤ i + 1) ∧ Hid (b = (l.take i).any (gtI n)) ∧ Hid (n ∉ l.take i) ∧ Own wr w.heap.size 3 1 intEnc v ls ∧ Below w.heap.size w wr) (fun _ _ z _ => l.length - (intOf z).toNat)
 case atStart => exact ⟨0, [], false, rfl, rfl, Nat.zero_le _, ⟨rfl, by simp⟩, rfl, (fun h => by simp at h : Hid _), Own.nil_, Below.refl _ _⟩
 case round =>
  obtain ⟨W, rfl⟩ := is_ wr
  obtain ⟨i, ls, b, rfl, rfl, hi, HL, HP, HN, hO, hB⟩ := hrel
  have hBs := hB.size
  have hll : ls.length ≤ 1000001 := by have := HL.out.2; omega
  obtain ⟨v, rfl⟩ := is_ u5
  by_cases hlt : i < l.length
  ·obtain ⟨y, bK, oK, hk, hA, hbK, d0⟩ := ints_at' (hS.below hB) hlt
   have hii : (i : Int) < (l.length : Int) := by omega
   have ei := wsuc i (by omega)
   have HT0 : Hid (l.take (i + 1) = l.take i ++ [y]) := by show _ = _; rw [List.take_add_one, hk, Option.toList_some]
   have HM : Hid (y ∈ l) := List.mem_of_getElem? hk
   have HK := hide hk
   subst hA
   clear hk
   by_cases he : y = n
   ·have HE : Hid (putU l n = l) := by show _ = _; unfold putU; rw [if_pos (by rw [← he]; exact HM.out)]
    have hS2 := (hS.below hB).more hBs
    clear hO
    go_wp2_with fail
    go_ret
    exact ⟨_, c, by rw [HE.out]; rfl, by rw [HE.out]; exact hS2, hB, .inl rfl⟩
   ·have HN2 : Hid (n ∉ l.take (i + 1)) := by
     show n ∉ _
     rw [HT0.out, List.mem_append, List.mem_singleton]
     rintro (h | h)
     ·exact HN.out h
     ·exact he h.symm
    cases b with
    | true =>
     have HT : Hid (ls ++ [y] = insAt (gtI n) n (l.take (i + 1)) ∧ (ls ++ [y]).length ≤ i + 1 + 1) := ⟨by rw [HT0.out, insAt_on HP.out.symm, HL.out.1], by rw [List.length_append]; have := HL.out.2; simp; omega⟩
     have HP2 : Hid (true = (l.take (i + 1)).any (gtI n)) := by show _ = _; rw [HT0.out, List.any_append, ← HP.out]; rfl
     go_wp2_with (at_builtin; refine wpList_app_own (base := w.heap.size) (f := intEnc) (ys := [y]) _ _ rfl rfl et_ints (hO.alloc _) rfl rfl ((Blk.new W 3 #[y]).slc1 rfl) rfl (fun _ => rfl) intEnc_one (by simp <;> omega) (by simp <;> omega) ?_; intro v6 W6 hO6 hb6 hg6)
     have hal := (Below.refl W.heap.size W).alloc (Nat.le_refl _) (.cells #[y] 3)
     replace hB := (hB.trans (hal.mono hB.size)).trans hb6
     have hO := hO6
     clear hO6 hal hb6 hg6
     have hBs := hB.size
     obtain ⟨W, rfl⟩ := is_ W6
     obtain ⟨v, rfl⟩ := is_ v6
     go_roundw
     case rel => exact ⟨i + 1, _, true, by go_num, rfl, by omega, HT, HP2, HN2, hO, hB⟩
     case measure => simp [intOf]; omega
    | false =>
     have HLS : Hid (ls = l.take i) := by show _ = _; rw [HL.out.1]; unfold insAt; rw [← HP.out]; rfl
     by_cases hg : n < y
     ·have HT : Hid (ls ++ [n] ++ [y] = insAt (gtI n) n (l.take (i + 1)) ∧ (ls ++ [n] ++ [y]).length ≤ i + 1 + 1) := ⟨by rw [HT0.out, insAt_here HP.out.symm (show gtI n y = true from decide_eq_true hg), HLS.out], by rw [HLS.out]; simp; omega⟩
      have HP2 : Hid (true = (l.take (i + 1)).any (gtI n)) := by show _ = _; rw [HT0.out, List.any_append]; simp [gtI, hg]
      go_upto_region 10 with (at_builtin; refine wpList_app_own (base := w.heap.size) (f := intEnc) (ys := [n]) _ _ rfl rfl et_ints (hO.alloc _) rfl rfl ((Blk.new W 3 #[n]).slc1 rfl) rfl (fun _ => rfl) intEnc_one (by simp <;> omega) (by simp <;> omega) ?_; intro v6 W6 hO6 hb6 hg6)
      have hal := (Below.refl W.heap.size W).alloc (Nat.le_refl _) (.cells #[n] 3)
      replace hB := (hB.trans (hal.mono hB.size)).trans hb6
      have hO := hO6
      clear hO6 hal hb6 hg6
      have hBs := hB.size
      obtain ⟨W, rfl⟩ := is_ W6
      obtain ⟨v, rfl⟩ := is_ v6
      have hll2 : (ls ++ [n]).length ≤ 1000002 := by rw [List.length_append]; simp; omega
      obtain ⟨y2, b2, o2, hk2, hA2, _, d0⟩ := ints_at' (hS.below hB) hlt
      obtain ⟨rfl, rfl⟩ : bK = b2 ∧ oK = o2 := by injection hA2 with h1; injection h1 with h2 h3; exact ⟨h2, h3⟩
      obtain rfl : y = y2 := by rw [HK.out] at hk2; injection hk2 with hk2
      clear hk2 hA2
      go_wp2_with (at_builtin; refine wpList_app_own (base := w.heap.size) (f := intEnc) (ys := [y]) _ _ rfl rfl et_ints (hO.alloc _) rfl rfl ((Blk.new W 3 #[y]).slc1 rfl) rfl (fun _ => rfl) intEnc_one (by simp <;> omega) (by simp <;> omega) ?_; intro v6 W6 hO6 hb6 hg6)
      have hal := (Below.refl W.heap.size W).alloc (Nat.le_refl _) (.cells #[y] 3)
      replace hB := (hB.trans (hal.mono hB.size)).trans hb6
      have hO := hO6
      clear hO6 hal hb6 hg6
      have hBs := hB.size
      obtain ⟨W, rfl⟩ := is_ W6
      obtain ⟨v, rfl⟩ := is_ v6
      go_roundw
      case rel => exact ⟨i + 1, _, true, by go_num, rfl, by omega, HT, HP2, HN2, hO, hB⟩
      case measure => simp [intOf]; omega
     ·have HT : Hid (ls ++ [y] = insAt (gtI n) n (l.take (i + 1)) ∧ (ls ++ [y]).length ≤ i + 1 + 1) := ⟨by rw [HT0.out, insAt_skip HP.out.symm (show gtI n y = false from decide_eq_false hg), HLS.out], by rw [List.length_append]; have := HL.out.2; simp; omega⟩
      have HP2 : Hid (false = (l.take (i + 1)).any (gtI n)) := by show _ = _; rw [HT0.out, List.any_append, ← HP.out]; simp [gtI, hg]
      go_wp2_with (at_builtin; refine wpList_app_own (base := w.heap.size) (f := intEnc) (ys := [y]) _ _ rfl rfl et_ints (hO.alloc _) rfl rfl ((Blk.new W 3 #[y]).slc1 rfl) rfl (fun _ => rfl) intEnc_one (by simp <;> omega) (by simp <;> omega) ?_; intro v6 W6 hO6 hb6 hg6)
      have hal := (Below.refl W.heap.size W).alloc (Nat.le_refl _) (.cells #[y] 3)
      replace hB := (hB.trans (hal.mono hB.size)).trans hb6
      have hO := hO6
      clear hO6 hal hb6 hg6
      have hBs := hB.size
      obtain ⟨W, rfl⟩ := is_ W6
      obtain ⟨v, rfl⟩ := is_ v6
      go_roundw
      case rel => exact ⟨i + 1, _, false, by go_num, rfl, by omega, HT, HP2, HN2, hO, hB⟩
      case measure => simp [intOf]; omega
  ·obtain rfl : i = l.length := by omega
   have HNN : Hid (n ∉ l) := by have h := HN.out; rw [List.take_length] at h; exact h
   have HPP : Hid (b = l.any (gtI n)) := by have h := HP.out; rw [List.take_length] at h; exact h
   have HLL : Hid (ls = insAt (gtI n) n l) := by have h := HL.out.1; rw [List.take_length] at h; exact h
   have HPU : Hid (putU l n = if l.any (gtI n) then insAt (gtI n) n l else insAt (gtI n) n l ++ [n]) := by show _ = _; unfold putU; rw [if_neg HNN.out, insAt_end]; rfl
   cases b with
   | true =>
    have HE : Hid (putU l n = ls) := by show _ = _; rw [HPU.out, ← HPP.out, HLL.out]; rfl
    obtain ⟨A', c', rfl, hsl⟩ := hO.form (fun _ => rfl)
    have HOF : Hid (∀ ad, A' = some ad → w.heap.size ≤ ad.block) := hO.from_ (Nat.le_refl _)
    clear hO
    go_wp2_with fail
    go_ret
    exact ⟨A', c', by rw [HE.out]; rfl, by rw [HE.out]; exact hsl, hB, .inr HOF.out⟩
   | false =>
    have HE : Hid (putU l n = ls ++ [n]) := by show _ = _; rw [HPU.out, ← HPP.out, HLL.out]; rfl
    go_upto_region 13 with (at_builtin; refine wpList_app_own (base := w.heap.size) (f := intEnc) (ys := [n]) _ _ rfl rfl et_ints (hO.alloc _) rfl rfl ((Blk.new W 3 #[n]).slc1 rfl) rfl (fun _ => rfl) intEnc_one (by simp <;> omega) (by simp <;> omega) ?_; intro v6 W6 hO6 hb6 hg6)
    have hal := (Below.refl W.heap.size W).alloc (Nat.le_refl _) (.cells #[n] 3)
    replace hB := (hB.trans (hal.mono hB.size)).trans hb6
    have hO := hO6
    clear hO6 hal hb6 hg6
    have hBs := hB.size
    obtain ⟨W, rfl⟩ := is_ W6
    obtain ⟨v, rfl⟩ := is_ v6
    obtain ⟨A', c', rfl, hsl⟩ := hO.form (fun _ => rfl)
    have HOF : Hid (∀ ad, A' = some ad → w.heap.size ≤ ad.block) := hO.from_ (Nat.le_refl _)
    clear hO
    go_wp2_with fail
    go_ret
    exact ⟨A', c', by rw [HE.out]; rfl, by rw [HE.out]; exact hsl, hB, .inr HOF.out⟩
end Go.Proofs.YtehlbomkldnalaaGreat

/- SamePieces, sameItem and SameItems of the laws, where both sides are the same: the walks. -/
namespace Go.Proofs.YtehlbomkldnalaaGreat
open Go Go.RowKit
theorem fields_pce : (Tryz.prog.fieldsOf 96).toList.map (fun f => (f.name == "_", f.type, f.offset)) = [(false, 3, 0), (false, 3, 1), (false, 3, 2), (false, 3, 3), (false, 3, 4), (false, 3, 5), (false, 3, 6), (false, 3, 7)] := by kernel_rfl
theorem fields_span : (Tryz.prog.fieldsOf 57).toList.map (fun f => (f.name == "_", f.type, f.offset)) = [(false, 3, 0), (false, 3, 1)] := by kernel_rfl
set_option maxHeartbeats 4000000 in
theorem neq_span (a b : Int) (w : World) : (binOp .neq 57 (.agg #[a, b]) (.agg #[a, b])).run Tryz.prog w = .ok (.bool false) w := by
 have he : (Op.equalIn 10000 57 (.agg #[a, b]) (.agg #[a, b])).run Tryz.prog w = .ok true w := by
  have hf := fields_span
  rw [run_equalIn_struct w 9999 _ _ _ (by kernel_rfl) (by kernel_rfl)]
  generalize (Tryz.prog.fieldsOf 57).toList = l at hf
  have hlen : l.length = 2 := by have := congrArg List.length hf; simpa using this
  match l, hlen, hf with
  | [f0, f1], _, hf =>
   simp only [List.map_cons, List.map_nil, List.cons.injEq, Prod.mk.injEq] at hf
   obtain ⟨h0, h1, -⟩ := hf
   have n0 : f0.name ≠ "_" := by simpa using h0.1
   have n1 : f1.name ≠ "_" := by simpa using h1.1
   simp [Op.eqFields, n0, n1, h0.2.1, h0.2.2, h1.2.1, h1.2.2, part, isAgg, run_underlying Tryz.underlying3, run_equalIn_int]
 simp [binOp, Op.equal, Op.maxDepth, he]
set_option maxHeartbeats 8000000 in
theorem neq_pce (a b c d e f g h : Int) (w : World) : (binOp .neq 96 (.agg #[a, b, c, d, e, f, g, h]) (.agg #[a, b, c, d, e, f, g, h])).run Tryz.prog w = .ok (.bool false) w := by
 have he : (Op.equalIn 10000 96 (.agg #[a, b, c, d, e, f, g, h]) (.agg #[a, b, c, d, e, f, g, h])).run Tryz.prog w = .ok true w := by
  have hf := fields_pce
  rw [run_equalIn_struct w 9999 _ _ _ (by kernel_rfl) (by kernel_rfl)]
  generalize (Tryz.prog.fieldsOf 96).toList = l at hf
  have hlen : l.length = 8 := by have := congrArg List.length hf; simpa using this
  match l, hlen, hf with
  | [f0, f1, f2, f3, f4, f5, f6, f7], _, hf =>
   simp only [List.map_cons, List.map_nil, List.cons.injEq, Prod.mk.injEq] at hf
   obtain ⟨h0, h1, h2, h3, h4, h5, h6, h7, -⟩ := hf
   have n0 : f0.name ≠ "_" := by simpa using h0.1
   have n1 : f1.name ≠ "_" := by simpa using h1.1
   have n2 : f2.name ≠ "_" := by simpa using h2.1
   have n3 : f3.name ≠ "_" := by simpa using h3.1
   have n4 : f4.name ≠ "_" := by simpa using h4.1
   have n5 : f5.name ≠ "_" := by simpa using h5.1
   have n6 : f6.name ≠ "_" := by simpa using h6.1
   have n7 : f7.name ≠ "_" := by simpa using h7.1
   simp [Op.eqFields, n0, n1, n2, n3, n4, n5, n6, n7, h0.2.1, h0.2.2, h1.2.1, h1.2.2, h2.2.1, h2.2.2, h3.2.1, h3.2.2, h4.2.1, h4.2.2, h5.2.1, h5.2.2, h6.2.1, h6.2.2, h7.2.1, h7.2.2, part, isAgg, run_underlying Tryz.underlying3, run_equalIn_int]
 simp [binOp, Op.equal, Op.maxDepth, he]
set_option maxRecDepth 100000 in
set_option maxHeartbeats 2000000 in
theorem samePieces_yes (A : Option Addr) (cA : Nat) (B : Option Addr) (cB : Nat) (ps : List Piece) (w : World) (hA : Slc Piece.enc 8 w w.heap.size A ps) (hB : Slc Piece.enc 8 w w.heap.size B ps) (hl : ps.length ≤ 1000000) :
  Calls Tryz.prog 23 #[.slice A ps.length cA, .slice B ps.length cB] w fun e w' => e = .returned (.bool true) ∧ Below w.heap.size w w' := by
 have G : ∀ W, Below w.heap.size w W → Calls Tryz.prog 23 #[.slice A ps.length cA, .slice B ps.length cB] W fun e w' => e = .returned (.bool true) ∧ Below w.heap.size w w' := by
  intro W hBl
  go_enter Tryz.func23, Tryz.ntmps23
  go_wp2_with fail
  go_loopw [5] (fun y W => ∃ (i : Nat), y = .int .i64 i ∧ i ≤ ps.length ∧ Below w.heap.size w W) (fun y _ => ps.length - (intOf y).toNat)
  case atStart => exact ⟨0, rfl, Nat.zero_le _, hBl⟩
  case round =>
   clear hBl
   obtain ⟨W, rfl⟩ := is_ wr
   obtain ⟨i, rfl, hi, hBl⟩ := hrel
   by_cases hlt : i < ps.length
   ·obtain ⟨x, hx⟩ : ∃ x, ps[i]? = some x := ⟨_, List.getElem?_eq_getElem hlt⟩
    obtain ⟨b1, o1, hA1, _, d0, d1, d2, d3, d4, d5, d6, d7⟩ := pce_at (hA.below hBl) hx
    obtain ⟨b2, o2, hB1, _, e0, e1, e2, e3, e4, e5, e6, e7⟩ := pce_at (hB.below hBl) hx
    have hii : (i : Int) < (ps.length : Int) := by omega
    have ei := wsuc i (by omega)
    have hnp := neq_pce x.id x.root x.lot x.grade x.colour x.width x.length x.use
    clear hx
    subst hA1 hB1
    go_wp2_with fail
    refine wp_region_q (by kernel_rfl) (by kernel_rfl) ?_
    dsimp only
    obtain ⟨y_d0, y_d1, y_d2, y_d3, y_d4, y_d5, y_d6, y_d7⟩ := Since.c8 d0 d1 d2 d3 d4 d5 d6 d7
    obtain ⟨y_e0, y_e1, y_e2, y_e3, y_e4, y_e5, y_e6, y_e7⟩ := Since.c8 e0 e1 e2 e3 e4 e5 e6 e7
    repeat (go_big_quiet_step ((fail)))
    refine wpQuiet_nil ?_
    rintro W ⟨⟨_, hb⟩, rfl⟩
    try dsimp only at hb ⊢
    replace d0 := sat y_d0 hb
    replace d1 := sat y_d1 hb
    replace d2 := sat y_d2 hb
    replace d3 := sat y_d3 hb
    replace d4 := sat y_d4 hb
    replace d5 := sat y_d5 hb
    replace d6 := sat y_d6 hb
    replace d7 := sat y_d7 hb
    replace e0 := sat y_e0 hb
    replace e1 := sat y_e1 hb
    replace e2 := sat y_e2 hb
    replace e3 := sat y_e3 hb
    replace e4 := sat y_e4 hb
    replace e5 := sat y_e5 hb
    replace e6 := sat y_e6 hb
    replace e7 := sat y_e7 hb
    clear y_d0 y_d1 y_d2 y_d3 y_d4 y_d5 y_d6 y_d7 y_e0 y_e1 y_e2 y_e3 y_e4 y_e5 y_e6 y_e7
    replace hBl := hBl.trans (hb.mono hBl.size)
    clear hb
    go_wp2_with fail
    go_roundw
    case rel => exact ⟨i + 1, by go_num, by omega, hBl⟩
    case measure => simp [intOf]; omega
   ·obtain rfl : i = ps.length := by omega
    go_wp2_with fail
    go_ret
    exact ⟨rfl, hBl⟩
 exact G w (Below.refl _ _)
set_option maxRecDepth 100000 in
set_option maxHeartbeats 4000000 in
theorem sameItem_yes (x : Sheet) (A : Option Addr) (cA : Nat) (B : Option Addr) (cB : Nat) (w : World) (hA : Slc Pt.enc 2 w w.heap.size A x.faults) (hB0 : Slc Pt.enc 2 w w.heap.size B x.faults) (hl : x.faults.length ≤ 100000) :
  Calls Tryz.prog 67 #[.agg ↑(x, A, cA), .agg ↑(x, B, cB)] w fun e w' => e = .returned (.bool true) ∧ Below w.heap.size w w' := by
 have hx := (Blk.new w 93 ↑(x, A, cA)).alloc (.cells ↑(x, B, cB) 93)
 have hy := Blk.new (w.alloc (.cells ↑(x, A, cA) 93)) 93 ↑(x, B, cB)
 have hB := ((Below.refl w.heap.size w).alloc (Nat.le_refl _) (.cells ↑(x, A, cA) 93)).alloc (by simp) (.cells ↑(x, B, cB) 93)
 rw [show (w.alloc (.cells ↑(x, A, cA) 93)).heap.size = w.heap.size + 1 by simp] at hy
 have HA := hide hA
 have HB0 := hide hB0
 clear hA hB0
 go_enter Tryz.func67, Tryz.ntmps67
 go_upto_region 1 with fail
 generalize (w.alloc (.cells ↑(x, A, cA) 93)).alloc (.cells ↑(x, B, cB) 93) = W at *
 obtain ⟨q0, q1, q2, q3, q4, q5, q6, q7, q8⟩ := hx.all9
 obtain ⟨k0, k1, k2, k3, k4, k5, k6, k7, k8⟩ := hy.all9
 go_upto_region 4 with fail
 clear q0 q1 q2 q3 q4 q5 q6 q7 q8 k0 k1 k2 k3 k4 k5 k6 k7 k8
 go_loopw [5] (fun z wr => ∃ (i : Nat), z = .int .i64 i ∧ i ≤ x.faults.length ∧ Blk wr w.heap.size 93 ↑(x, A, cA) ∧ Blk wr (w.heap.size + 1) 93 ↑(x, B, cB) ∧ Below w.heap.size w wr) (fun z _ => x.faults.length - (intOf z).toNat)
 case atStart => exact ⟨0, rfl, Nat.zero_le _, hx, hy, hB⟩
 case round =>
  clear hx hy hB
  obtain ⟨W, rfl⟩ := is_ wr
  obtain ⟨i, rfl, hi, hx, hy, hBl⟩ := hrel
  have q8 := hx.cell_ 8 (v := .slice A x.faults.length cA) rfl
  have k8 := hy.cell_ 8 (v := .slice B x.faults.length cB) rfl
  by_cases hlt : i < x.faults.length
  ·obtain ⟨xa, xb, b1, o1, hf, hA1, _, d0, d1⟩ := pts_at (HA.out.below hBl) hlt
   obtain ⟨ya, yb, b2, o2, hf2, hB1, _, e0, e1⟩ := pts_at (HB0.out.below hBl) hlt
   obtain ⟨rfl, rfl⟩ : xa = ya ∧ xb = yb := by rw [hf] at hf2; injection hf2 with hf2; injection hf2 with h1 h2; exact ⟨h1, h2⟩
   have hii : (i : Int) < (x.faults.length : Int) := by omega
   have ei := wsuc i (by omega)
   have hnp := neq_span xa xb
   clear hf hf2
   subst hA1 hB1
   have HXX := hide hx
   have HYY := hide hy
   clear hx hy
   go_wp2_with fail
   refine wp_region_q (by kernel_rfl) (by kernel_rfl) ?_
   dsimp only
   obtain ⟨y_d0, y_d1⟩ := Since.c2 d0 d1
   obtain ⟨y_e0, y_e1⟩ := Since.c2 e0 e1
   have y_q8 := Since.cell q8
   have y_k8 := Since.cell k8
   repeat (go_big_quiet_step ((fail)))
   refine wpQuiet_nil ?_
   rintro W ⟨⟨_, hb⟩, rfl⟩
   try dsimp only at hb ⊢
   replace d0 := sat y_d0 hb
   replace d1 := sat y_d1 hb
   replace e0 := sat y_e0 hb
   replace e1 := sat y_e1 hb
   replace q8 := sat y_q8 hb
   replace k8 := sat y_k8 hb
   clear y_d0 y_d1 y_e0 y_e1 y_q8 y_k8
   replace hBl := Below.trans hBl (Below.mono hb (Below.size hBl))
   replace HXX := hide (Blk.below (Hid.out HXX) hb (Blk.lt (Hid.out HXX)))
   replace HYY := hide (Blk.below (Hid.out HYY) hb (Blk.lt (Hid.out HYY)))
   clear hb
   go_wp2_with fail
   clear q8 k8
   go_roundw
   case rel => exact ⟨i + 1, by go_num, by omega, HXX.out, HYY.out, hBl⟩
   case measure => simp [intOf]; omega
  ·obtain rfl : i = x.faults.length := by omega
   go_wp2_with fail
   go_ret
   exact ⟨rfl, hBl⟩
end Go.Proofs.YtehlbomkldnalaaGreat

/- SameItems where the second list is the reference's: the walk. -/
namespace Go.Proofs.YtehlbomkldnalaaGreat
open Go Go.RowKit
set_option maxRecDepth 100000 in
set_option maxHeartbeats 2000000 in
theorem sameItems_rs (A : Option Addr) (cA : Nat) (B : Option Addr) (cB : Nat) (xs : List Sheet) (hs hs2 : List SH) (w : World) (hA : Slc SH.enc 9 w w.heap.size A hs) (hI : ShsIn w hs xs) (hB : Slc SH.enc 9 w w.heap.size B hs2) {P : Nat → Prop} (hI2 : RsIn w P hs2 xs) (hl : xs.length ≤ 1000000) (hf : ∀ x ∈ xs, x.faults.length ≤ 100000) :
  Calls Tryz.prog 36 #[.slice A xs.length cA, .slice B xs.length cB] w fun e w' => e = .returned (.bool true) ∧ Below w.heap.size w w' := by
 have HF := hide hf
 clear hf
 have HI := hide hI
 have HI2 := hide hI2
 clear hI hI2
 have G : ∀ W, Below w.heap.size w W → Calls Tryz.prog 36 #[.slice A xs.length cA, .slice B xs.length cB] W fun e w' => e = .returned (.bool true) ∧ Below w.heap.size w w' := by
  intro W hBl
  go_enter Tryz.func36, Tryz.ntmps36
  go_wp2_with fail
  go_loopw [5] (fun y W => ∃ (i : Nat), y = .int .i64 i ∧ i ≤ xs.length ∧ Below w.heap.size w W) (fun y _ => xs.length - (intOf y).toNat)
  case atStart => exact ⟨0, rfl, Nat.zero_le _, hBl⟩
  case round =>
   clear hBl
   obtain ⟨W, rfl⟩ := is_ wr
   obtain ⟨i, rfl, hi, hBl⟩ := hrel
   by_cases hlt : i < xs.length
   ·obtain ⟨x, hx⟩ : ∃ x, xs[i]? = some x := ⟨_, List.getElem?_eq_getElem hlt⟩
    obtain ⟨A1, c1, hh1, hv1⟩ := HI.out.at_ hx
    obtain ⟨A2, c2, hh2, hv2⟩ := HI2.out.at_ hx
    obtain ⟨b1, o1, hA1, _, d0, d1, d2, d3, d4, d5, d6, d7, d8⟩ := sh_at (hA.below hBl) hh1
    obtain ⟨b2, o2, hB1, _, e0, e1, e2, e3, e4, e5, e6, e7, e8⟩ := sh_at (hB.below hBl) hh2
    have hii : (i : Int) < (xs.length : Int) := by omega
    have ei := wsuc i (by omega)
    have HFX : Hid (x.faults.length ≤ 100000) := HF.out x (List.mem_of_getElem? hx)
    have HS1 : Hid (Slc Pt.enc 2 W W.heap.size A1 x.faults) := Slc.on hv1.slc hBl
    have HS2 : Hid (Slc Pt.enc 2 W W.heap.size A2 x.faults) := Slc.on hv2.slc.1 hBl
    clear hx hh1 hh2 hv1 hv2
    subst hA1 hB1
    go_wp2_with fail
    refine wp_region_q (by kernel_rfl) (by kernel_rfl) ?_
    dsimp only
    obtain ⟨y_d0, y_d1, y_d2, y_d3, y_d4, y_d5, y_d6, y_d7, y_d8⟩ := Since.c9 d0 d1 d2 d3 d4 d5 d6 d7 d8
    obtain ⟨y_e0, y_e1, y_e2, y_e3, y_e4, y_e5, y_e6, y_e7, y_e8⟩ := Since.c9 e0 e1 e2 e3 e4 e5 e6 e7 e8
    repeat (go_big_quiet_step ((go_at_call 67; exact Since.calls (sameItem_yes x A1 c1 A2 c2 _ (Slc.on HS1.out (Since.h _)) (Slc.on HS2.out (Since.h _)) HFX.out))))
    refine wpQuiet_nil ?_
    rintro W ⟨⟨_, hb⟩, rfl⟩
    try dsimp only at hb ⊢
    replace d0 := sat y_d0 hb
    replace d1 := sat y_d1 hb
    replace d2 := sat y_d2 hb
    replace d3 := sat y_d3 hb
    replace d4 := sat y_d4 hb
    replace d5 := sat y_d5 hb
    replace d6 := sat y_d6 hb
    replace d7 := sat y_d7 hb
    replace d8 := sat y_d8 hb
    replace e0 := sat y_e0 hb
    replace e1 := sat y_e1 hb
    replace e2 := sat y_e2 hb
    replace e3 := sat y_e3 hb
    replace e4 := sat y_e4 hb
    replace e5 := sat y_e5 hb
    replace e6 := sat y_e6 hb
    replace e7 := sat y_e7 hb
    replace e8 := sat y_e8 hb
    clear y_d0 y_d1 y_d2 y_d3 y_d4 y_d5 y_d6 y_d7 y_d8 y_e0 y_e1 y_e2 y_e3 y_e4 y_e5 y_e6 y_e7 y_e8
    replace hBl := hBl.trans (hb.mono hBl.size)
    clear hb
    go_wp2_with fail
    go_roundw
    case rel => exact ⟨i + 1, by go_num, by omega, hBl⟩
    case measure => simp [intOf]; omega
   ·obtain rfl : i = xs.length := by omega
    go_wp2_with fail
    go_ret
    exact ⟨rfl, hBl⟩
 exact G w (Below.refl _ _)
end Go.Proofs.YtehlbomkldnalaaGreat
