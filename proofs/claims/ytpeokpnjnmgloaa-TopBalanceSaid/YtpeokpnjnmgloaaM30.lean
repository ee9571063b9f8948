/- Parts of the proofs of this seat: Recall. Each part says what it proves; no condition beyond those stated there. -/
import Derived.Sort.OwnSortedInts
import Derived.Lib.RowBridge
import Derived.Test.YtpeokpnjnmgloaaM26

/- Recall: the walk. -/
namespace Go.Proofs.Ytpeokpnjnmgloaa
open Go Go.RowKit Go.Sort
theorem map_flat (l : List Int) : l.map (Value.int .i64) = l.flatMap intEnc := by
  induction l with
  | nil => rfl
  | cons x l ih => rw [List.map_cons, List.flatMap_cons, ih]; rfl
/-- an owned list of numbers, as the library's contracts want it, and what lies there when its row is written anew -/
theorem own_row {w : World} {base : Nat} {e : TypeId} {A : Option Addr} {c : Nat} {l : List Int} (h : Own w base e 1 intEnc (.slice A l.length c) l) (hl : l ≠ []) :
    ∃ g, A = some ⟨g, 0, none⟩ ∧ base ≤ g ∧ g < w.heap.size ∧ l.length ≤ c ∧ Holds (Value.int .i64) w g 0 l.toArray ∧ ∀ (ts : List Int) n os (w' : World), ts.length = l.length → w' = grow (putRow (Value.int .i64) (Go.Sort.ahead w n) g 0 ts.toArray) os → w.grownBy w' (some g) ∧ Own w' base e 1 intEnc (.slice A l.length c) ts := by
  rcases h.2 with ⟨_, h2⟩ | ⟨g, cap, cur, h1, h2, h3, h4, h5, h6, h7⟩
  · exact absurd (List.length_eq_zero_iff.1 h2) hl
  · injection h1 with h1 _ hc
    subst h1 hc
    have hm : cur.toList.take l.length = l.map (Value.int .i64) := by rw [map_flat, ← h7, Nat.mul_one]
    refine ⟨g, rfl, h2, (Array.getElem?_eq_some_iff.1 h3).1, h4, holds_of_blockI h3 hm, fun ts n os w' hs hw => ?_⟩
    subst hw
    refine ⟨grownBy_sortedI _, ?_⟩
    have ho := ownsRow_sortedI (base := base) (n := n) (os := os) (ss := l) (ts := ts) (cap := c) hs h2 h3 h4 h5 (by rw [h6])
    show World.ownsRow _ _ _ _ _ _ _
    rw [hs, ← map_flat]
    exact ho
def usesF (us : List Int) : List Int := Go.Lib.compact (us.mergeSort fun x y => decide (x ≤ y))
theorem uses_nil : usesF [] = [] := by unfold usesF; rw [uses_same]; rfl
theorem scrapP_pre {s : SS} (h : Inv s) (P : Piece → Bool) (i : Nat) : Inv (scrapP P ((piecesL s).take i) s) ∧ Same s (scrapP P ((piecesL s).take i) s) := by
  have hs := pieces_shows h
  obtain ⟨a1, a2, _⟩ := scrapP_all P ((piecesL s).take i) h (hs.s.sublist (List.take_sublist _ _)) fun x hx => (hs.m x).1 (List.mem_of_mem_take hx)
  exact ⟨a1, a2⟩
theorem pce_at {w : World} {B : Nat} {A : Option Addr} {ps : List Piece} {i : Nat} {x : Piece} (h : Slc Piece.enc 8 w B A ps) (hi : ps[i]? = some x) : ∃ b off, A = some ⟨b, off, none⟩ ∧ b < B ∧
    w.cell? ⟨b, off + i * 8, none⟩ = some (.int .i64 x.id) ∧ w.cell? ⟨b, off + i * 8 + 1, none⟩ = some (.int .i64 x.root) ∧ w.cell? ⟨b, off + i * 8 + 2, none⟩ = some (.int .i64 x.lot) ∧ w.cell? ⟨b, off + i * 8 + 3, none⟩ = some (.int .i64 x.grade) ∧ w.cell? ⟨b, off + i * 8 + 4, none⟩ = some (.int .i64 x.colour) ∧
    w.cell? ⟨b, off + i * 8 + 5, none⟩ = some (.int .i64 x.width) ∧ w.cell? ⟨b, off + i * 8 + 6, none⟩ = some (.int .i64 x.length) ∧ w.cell? ⟨b, off + i * 8 + 7, none⟩ = some (.int .i64 x.use) := by
  obtain ⟨b, off, hA, hb, h0⟩ := h i _ hi
  exact ⟨b, off, hA, hb, h0 0 _ rfl, h0 1 _ rfl, h0 2 _ rfl, h0 3 _ rfl, h0 4 _ rfl, h0 5 _ rfl, h0 6 _ rfl, h0 7 _ rfl⟩
def RecPost (p : Fp) (s : SS) (lot : Int) (w : World) (e : Ending) (w' : World) : Prop :=
  ∃ (A : Option Addr) (c : Nat), e = .returned (.tuple #[.slice A (usesF (recU s lot)).length c, .int .i64 0]) ∧ Slc intEnc 1 w' w'.heap.size A (usesF (recU s lot)) ∧ (∀ ad, A = some ad → w.heap.size ≤ ad.block) ∧ StA w' p (rec2 s lot) ∧ Chg p.has w w'
set_option maxRecDepth 100000 in
theorem recall_bad (p : Fp) (s : SS) (lot : Int) (w : World) (hX : StA w p s) (hl : look s.lots lot = none) : Calls Try.prog 24 #[.pointer (some ⟨p.g, 0, none⟩), .int .i64 lot] w fun e w' => e = .returned (.tuple #[.slice none 0 0, .int .i64 5]) ∧ Below w.heap.size w w' := by
  have c5 := hX.blk.cell_ 5 (v := .bool true) rfl
  have c9 := hX.blk.cell_ 9 (v := .map (some p.rl)) rfl
  have lk := hX.lots.look_no (P := Try.prog) (t := 56) (z := .agg #[.int .i64 0, .int .i64 0, .int .i64 0]) Try.underlying56 Try.underlying3 (fun w => by kernel_rfl) (look_kv_none hl) true
  clear hl
  go_enter Try.func24, Try.ntmps24
  go_wp2_with fail
  refine (none_any p.g _ c5).mono ?_
  rintro e W' ⟨rfl, rfl⟩
  go_wp2_with fail
  go_ret2
  exact ⟨rfl, (Below.refl _ _).alloc (Nat.le_refl _) _⟩
set_option maxRecDepth 100000 in
set_option maxHeartbeats 8000000 in
theorem recall_any (p : Fp) (s : SS) (lot : Int) (w : World) (hX : StA w p s) (hI : Inv s) (hF : Few s) {kn : Kin} (hl : look s.lots lot = some kn) : Calls Try.prog 24 #[.pointer (some ⟨p.g, 0, none⟩), .int .i64 lot] w (RecPost p s lot w) := by
  have HI := hide hI
  have HF := hide hF
  have c5 := hX.blk.cell_ 5 (v := .bool true) rfl
  have c9 := hX.blk.cell_ 9 (v := .map (some p.rl)) rfl
  have HLT : Hid (∀ k, p.has k → k < w.heap.size) := fun k hk => hX.lt hk
  have lk := hX.lots.look_yes (P := Try.prog) (t := 56) Try.underlying56 Try.underlying3 (look_kv_some hl) true
  obtain ⟨kg, kc, km⟩ := kn
  unfold Kin.val at lk
  dsimp only at lk
  have hal := (Below.refl w.heap.size w).alloc (Nat.le_refl _) (.cells #[.int .i64 kg, .int .i64 kc, .int .i64 km] 61)
  clear hI hF hl
  go_enter Try.func24, Try.ntmps24
  go_wp2_with fail
  refine (none_any p.g _ c5).mono ?_
  rintro e W' ⟨rfl, rfl⟩
  clear c5
  replace hX := hX.below hal
  have hC : Chg p.has w (w.alloc (.cells #[.int .i64 kg, .int .i64 kc, .int .i64 km] 61)) := .of_below hal
  have hw0 := hal.size
  go_upto_region 4 with fail
  clear lk c9 hal
  generalize w.alloc (.cells #[.int .i64 kg, .int .i64 kc, .int .i64 km] 61) = w0 at *
  go_wp2_with fail
  refine (items_any p s w0 hX HI.out HF.out).mono ?_
  rintro e w1 ⟨A1, c1, hs, rfl, hS1, hIn, hb1, hA1⟩
  have hX1 := hX.below hb1
  have hC1 : Chg p.has w w1 := hC.trans (.of_below hb1)
  have HA1 : Hid (∀ ad, A1 = some ad → ¬ p.has ad.block) := fun ad ha hh => by have h1 := hA1 ad ha; have h2 := HLT.out _ hh; omega
  obtain ⟨xs, hxs⟩ : ∃ xs, itemsL s = xs := ⟨_, rfl⟩
  rw [hxs] at hIn
  rw [hxs]
  have HXS := hide hxs
  have hxl : xs.length ≤ 1000000 := by rw [← hxs]; unfold itemsL; rw [vals_len HI.out.ki]; exact HF.out.it
  have HIN := hide hIn
  have hbsz := Nat.le_trans hw0 hb1.size
  have HBS := hide hbsz
  clear hX hC hb1 hA1 hxs hIn hw0
  go_upto_block 7 with fail
  go_loopw [29] (fun z wr => ∃ (i : Nat), z = .int .i64 i ∧ i ≤ xs.length ∧ StA wr p (scrapI (fun x => decide (x.lot = lot)) (xs.take i) s) ∧ Slc SH.enc 9 wr w1.heap.size A1 hs ∧ Chg p.has w wr ∧ w1.heap.size ≤ wr.heap.size) (fun z _ => xs.length - (intOf z).toNat)
  case atStart => exact ⟨0, rfl, Nat.zero_le _, hX1, hS1, hC1, Nat.le_refl _⟩
  case round =>
    obtain ⟨W, rfl⟩ : ∃ W : World, W = wr := ⟨_, rfl⟩
    obtain ⟨i, rfl, hi, hX, hS, hC, hsz⟩ := hrel
    clear hX1 hS1 hC1
    by_cases hlt : i < xs.length
    · obtain ⟨x, hx⟩ : ∃ x, xs[i]? = some x := ⟨_, List.getElem?_eq_getElem hlt⟩
      obtain ⟨A, c, hh, _⟩ := HIN.out.at_ hx
      obtain ⟨bS, oS, hAS, hbS, d0, d1, d2, d3, d4, d5, d6, d7, d8⟩ := sh_at hS hh
      have hii : (i : Int) < (xs.length : Int) := by omega
      have ei : IntKind.i64.wrap ((i : Int) + 1) = ((i + 1 : Nat) : Int) := by rw [IntWalk.i64_in _ (by omega)]; push_cast; rfl
      obtain ⟨P1, P2⟩ := scrapI_pre HI.out (fun x => decide (x.lot = lot)) i
      rw [HXS.out] at P1 P2
      obtain ⟨t, ht⟩ : ∃ t, scrapI (fun x => decide (x.lot = lot)) (xs.take i) s = t := ⟨_, rfl⟩
      have HTN : Hid (scrapI (fun x => decide (x.lot = lot)) (xs.take (i + 1)) s = if x.lot = lot then scrapF t x.id else t) := by
        show _ = _
        rw [List.take_add_one, hx, Option.toList_some, scrapI_snoc, ht]; simp
      have HFT : Hid (Few t) := by show Few t; rw [← ht]; exact few_scrapI _ _ HF.out
      rw [ht] at hX P1 P2
      have HP1 := hide P1
      subst hAS
      clear ht P1 P2 hx hh
      have hx := Blk.new W 65 #[.int .i64 x.id, .int .i64 x.root, .int .i64 x.grade, .int .i64 x.colour, .int .i64 x.lot, .int .i64 x.made, .int .i64 x.width, .int .i64 x.length, .slice A x.faults.length c]
      have hal := (Below.refl W.heap.size W).alloc (Nat.le_refl _) (.cells #[.int .i64 x.id, .int .i64 x.root, .int .i64 x.grade, .int .i64 x.colour, .int .i64 x.lot, .int .i64 x.made, .int .i64 x.width, .int .i64 x.length, .slice A x.faults.length c] 65)
      replace hX := hX.below hal
      replace hS := hS.below (hal.mono hsz)
      replace hC := hC.trans (.of_below hal)
      have hsz2 : w1.heap.size ≤ (W.alloc (.cells #[.int .i64 x.id, .int .i64 x.root, .int .i64 x.grade, .int .i64 x.colour, .int .i64 x.lot, .int .i64 x.made, .int .i64 x.width, .int .i64 x.length, .slice A x.faults.length c] 65)).heap.size := Nat.le_trans hsz hal.size
      go_upto_region 9 with fail
      clear d0 d1 d2 d3 d4 d5 d6 d7 d8 hal hsz
      generalize W.alloc (.cells #[.int .i64 x.id, .int .i64 x.root, .int .i64 x.grade, .int .i64 x.colour, .int .i64 x.lot, .int .i64 x.made, .int .i64 x.width, .int .i64 x.length, .slice A x.faults.length c] 65) = W3 at *
      generalize W.heap.size = bx at *
      obtain ⟨W, rfl⟩ : ∃ X : World, X = W3 := ⟨_, rfl⟩
      have x0 := hx.cell_ 0 (v := .int .i64 x.id) rfl
      have x4 := hx.cell_ 4 (v := .int .i64 x.lot) rfl
      by_cases hq : x.lot = lot
      · have HTN2 : Hid (scrapI (fun x => decide (x.lot = lot)) (xs.take (i + 1)) s = scrapF t x.id) := by show _ = _; rw [HTN.out, if_pos hq]
        have hqb : (x.lot == lot) = true := by simp [hq]
        clear hq
        go_wp2_with fail
        refine (scrap_any p t x.id W hX HP1.out HFT.out).mono ?_
        rintro e W7 ⟨rfl, hX7, hC7⟩
        rw [← HTN2.out] at hX7
        replace hS := hS.chgA hC7 hsz2 HA1.out
        replace hC := hC.trans hC7
        replace hsz2 := Nat.le_trans hsz2 hC7.size
        clear hX hx x0 x4 hC7 hqb
        go_wp2_with fail
        go_roundw
        case rel => exact ⟨i + 1, by go_num, by omega, hX7, hS, hC, hsz2⟩
        case measure => simp [intOf]; omega
      · have HTN2 : Hid (scrapI (fun x => decide (x.lot = lot)) (xs.take (i + 1)) s = t) := by show _ = _; rw [HTN.out, if_neg hq]
        have hqb : (x.lot == lot) = false := by simp [hq]
        rw [← HTN2.out] at hX
        clear hq
        go_wp2_with fail
        go_roundw
        case rel => exact ⟨i + 1, by go_num, by omega, hX, hS, hC, hsz2⟩
        case measure => simp [intOf]; omega
    · obtain rfl : i = xs.length := by omega
      have HI1 : Hid (Inv (rec1 s lot) ∧ Same s (rec1 s lot)) := by
        have h1 := scrapI_pre HI.out (fun x => decide (x.lot = lot)) xs.length
        rw [HXS.out, List.take_length] at h1
        show Inv _ ∧ Same _ _
        unfold rec1
        rw [HXS.out]; exact h1
      have HF1 : Hid (Few (rec1 s lot)) := by show Few _; unfold rec1; exact few_scrapI _ _ HF.out
      have hX2 : StA W p (rec1 s lot) := by unfold rec1; rw [HXS.out]; rw [List.take_length] at hX; exact hX
      have HPL : Hid (piecesL (rec1 s lot) = piecesL s) := rec1_pieces HI.out lot
      clear hX hS
      go_wp2_with fail
      refine (pieces_any p (rec1 s lot) W hX2 HI1.out.1 HF1.out).mono ?_
      rintro e w2 ⟨A2, c2, rfl, hS2, hb2, hA2⟩
      replace hX2 := hX2.below hb2
      replace hC := hC.trans (.of_below hb2)
      have hBS2 : Hid (w.heap.size ≤ w2.heap.size) := by show _ ≤ _; have h1 := HBS.out; have h2 := hb2.size; omega
      have HA2 : Hid (∀ ad, A2 = some ad → ¬ p.has ad.block) := fun ad ha hh => by have h1 := hA2 ad ha; have h2 := HLT.out _ hh; have h3 := HBS.out; omega
      obtain ⟨ps, hps⟩ : ∃ ps, piecesL (rec1 s lot) = ps := ⟨_, rfl⟩
      rw [hps] at hS2
      rw [hps]
      have HPS := hide hps
      have hpl : ps.length ≤ 1000000 := by rw [← hps]; unfold piecesL; rw [vals_len HI1.out.1.kp]; exact HF1.out.pc
      clear hb2 hA2 hps hsz
      go_upto_block 14 with fail
      go_loopw [10, 45] (fun v z wr => ∃ (i : Nat) (ls : List Int), z = .int .i64 i ∧ i ≤ ps.length ∧ ls.length ≤ i ∧ Hid (ls = ((ps.take i).filter fun x => decide (x.lot = lot) && !decide (x.use = 0)).map (·.use)) ∧ Own wr w2.heap.size 3 1 intEnc v ls ∧ StA wr p (scrapP (fun x => decide (x.lot = lot) && decide (x.use = 0)) (ps.take i) (rec1 s lot)) ∧ Slc Piece.enc 8 wr w2.heap.size A2 ps ∧ Chg p.has w wr ∧ w2.heap.size ≤ wr.heap.size) (fun _ z _ => ps.length - (intOf z).toNat)
      case atStart => exact ⟨0, [], rfl, Nat.zero_le _, Nat.zero_le _, rfl, Own.nil_, hX2, hS2, hC, Nat.le_refl _⟩
      case round =>
        clear hX2 hS2 hC
        obtain ⟨W, rfl⟩ : ∃ W : World, W = wr := ⟨_, rfl⟩
        obtain ⟨i, ls, rfl, hi, hll, HL, hO, hX, hS, hC, hsz⟩ := hrel
        by_cases hlt : i < ps.length
        · obtain ⟨x, hx⟩ : ∃ x, ps[i]? = some x := ⟨_, List.getElem?_eq_getElem hlt⟩
          obtain ⟨bS, oS, hAS, hbS, d0, d1, d2, d3, d4, d5, d6, d7⟩ := pce_at hS hx
          have hii : (i : Int) < (ps.length : Int) := by omega
          have ei : IntKind.i64.wrap ((i : Int) + 1) = ((i + 1 : Nat) : Int) := by rw [IntWalk.i64_in _ (by omega)]; push_cast; rfl
          obtain ⟨P1, P2⟩ := scrapP_pre HI1.out.1 (fun x => decide (x.lot = lot) && decide (x.use = 0)) i
          rw [HPS.out] at P1 P2
          obtain ⟨t, ht⟩ : ∃ t, scrapP (fun x => decide (x.lot = lot) && decide (x.use = 0)) (ps.take i) (rec1 s lot) = t := ⟨_, rfl⟩
          have HTN : Hid (scrapP (fun x => decide (x.lot = lot) && decide (x.use = 0)) (ps.take (i + 1)) (rec1 s lot) = if (decide (x.lot = lot) && decide (x.use = 0)) then scrapF t x.id else t) := by
            show _ = _
            rw [List.take_add_one, hx, Option.toList_some, scrapP_snoc, ht]
          have HLN : Hid (((ps.take (i + 1)).filter fun x => decide (x.lot = lot) && !decide (x.use = 0)).map (·.use) = ls ++ if (decide (x.lot = lot) && !decide (x.use = 0)) then [x.use] else []) := by
            show _ = _
            rw [List.take_add_one, hx, Option.toList_some, List.filter_append, List.map_append, HL.out]
            cases hq : (decide (x.lot = lot) && !decide (x.use = 0)) with
            | true => rw [if_pos rfl, List.filter_cons_of_pos (by simpa using hq)]; rfl
            | false => rw [if_neg (by decide), List.filter_cons_of_neg (by rw [hq]; decide)]; rfl
          have HFT : Hid (Few t) := by show Few t; rw [← ht]; exact few_scrapP _ _ HF1.out
          rw [ht] at hX P1 P2
          have HP1 := hide P1
          subst hAS
          clear ht P1 P2 hx
          have hx := Blk.new W 79 #[.int .i64 x.id, .int .i64 x.root, .int .i64 x.lot, .int .i64 x.grade, .int .i64 x.colour, .int .i64 x.width, .int .i64 x.length, .int .i64 x.use]
          have hal := (Below.refl W.heap.size W).alloc (Nat.le_refl _) (.cells #[.int .i64 x.id, .int .i64 x.root, .int .i64 x.lot, .int .i64 x.grade, .int .i64 x.colour, .int .i64 x.width, .int .i64 x.length, .int .i64 x.use] 79)
          replace hX := hX.below hal
          replace hO := hO.below hal
          replace hS := hS.below (hal.mono hsz)
          replace hC := hC.trans (.of_below hal)
          have hsz2 : w2.heap.size ≤ (W.alloc (.cells #[.int .i64 x.id, .int .i64 x.root, .int .i64 x.lot, .int .i64 x.grade, .int .i64 x.colour, .int .i64 x.width, .int .i64 x.length, .int .i64 x.use] 79)).heap.size := Nat.le_trans hsz hal.size
          go_upto_region 17 with fail
          clear d0 d1 d2 d3 d4 d5 d6 d7 hal hsz
          generalize W.alloc (.cells #[.int .i64 x.id, .int .i64 x.root, .int .i64 x.lot, .int .i64 x.grade, .int .i64 x.colour, .int .i64 x.width, .int .i64 x.length, .int .i64 x.use] 79) = W3 at *
          generalize W.heap.size = bx at *
          obtain ⟨W, rfl⟩ : ∃ X : World, X = W3 := ⟨_, rfl⟩
          have x0 := hx.cell_ 0 (v := .int .i64 x.id) rfl
          have x2 := hx.cell_ 2 (v := .int .i64 x.lot) rfl
          have x7 := hx.cell_ 7 (v := .int .i64 x.use) rfl
          have HLB : Hid (∀ k, p.has k → k < w2.heap.size) := fun k hk => by have h1 := HLT.out k hk; have h2 := hBS2.out; omega
          by_cases hq : x.lot = lot
          · have hqb : (x.lot != lot) = false := by simp [hq]
            by_cases hu : x.use = 0
            · have hub : (x.use == 0) = true := by simp [hu]
              have HTN2 : Hid (scrapP (fun x => decide (x.lot = lot) && decide (x.use = 0)) (ps.take (i + 1)) (rec1 s lot) = scrapF t x.id) := by show _ = _; rw [HTN.out, decide_eq_true hq, decide_eq_true hu]; rfl
              have HLN2 : Hid (ls = ((ps.take (i + 1)).filter fun x => decide (x.lot = lot) && !decide (x.use = 0)).map (·.use)) := by show _ = _; rw [HLN.out, decide_eq_true hq, decide_eq_true hu]; simp
              clear hq hu
              go_wp2_with fail
              refine (scrap_any p t x.id W hX HP1.out HFT.out).mono ?_
              rintro e W7 ⟨rfl, hX7, hC7⟩
              rw [← HTN2.out] at hX7
              replace hO := hO.chgN hC7 fun k hk hh => by have h1 := HLB.out k hh; have h2 := own_base hO k hk; omega
              replace hS := hS.chgA hC7 hsz2 HA2.out
              replace hC := hC.trans hC7
              replace hsz2 := Nat.le_trans hsz2 hC7.size
              clear hX hx x0 x2 x7 hC7 hqb hub
              go_wp2_with fail
              go_roundw
              case rel => exact ⟨i + 1, ls, by go_num, by omega, by omega, HLN2, hO, hX7, hS, hC, hsz2⟩
              case measure => simp [intOf]; omega
            · have hub : (x.use == 0) = false := by simp [hu]
              have HTN2 : Hid (scrapP (fun x => decide (x.lot = lot) && decide (x.use = 0)) (ps.take (i + 1)) (rec1 s lot) = t) := by show _ = _; rw [HTN.out, decide_eq_true hq, decide_eq_false hu]; rfl
              have HLN2 : Hid (ls ++ [x.use] = ((ps.take (i + 1)).filter fun x => decide (x.lot = lot) && !decide (x.use = 0)).map (·.use)) := by show _ = _; rw [HLN.out, decide_eq_true hq, decide_eq_false hu]; rfl
              rw [← HTN2.out] at hX
              clear hq hu
              go_wp2_with (at_builtin; refine wpList_app_own (base := w2.heap.size) (f := intEnc) (ys := [x.use]) _ _ rfl rfl et_ints (hO.alloc _) rfl rfl ((Blk.new W 3 #[.int .i64 x.use]).slc1 rfl) rfl (fun _ => rfl) intEnc_one (by simp <;> omega) (by simp <;> omega) ?_; intro v6 W6 hO6 hb6 hg6)
              have hal := (Below.refl W.heap.size W).alloc (Nat.le_refl _) (.cells #[.int .i64 x.use] 3)
              replace hX := (hX.below hal).grownO (hO.alloc _) (by decide) HLB.out hg6
              replace hC := (hC.trans (.of_below hal)).grownO (hO.alloc _) hBS2.out hg6
              replace hS := (hS.below (hal.mono hsz2)).below hb6
              replace hsz2 := Nat.le_trans (Nat.le_trans hsz2 hal.size) hb6.size
              clear hO hx hal hb6 hg6 x0 x2 x7 hqb hub
              go_roundw
              case rel => exact ⟨i + 1, ls ++ [x.use], by go_num, by omega, by simp; omega, HLN2, hO6, hX, hS, hC, hsz2⟩
              case measure => simp [intOf]; omega
          · have hqb : (x.lot != lot) = true := by simp [hq]
            have HTN2 : Hid (scrapP (fun x => decide (x.lot = lot) && decide (x.use = 0)) (ps.take (i + 1)) (rec1 s lot) = t) := by show _ = _; rw [HTN.out, decide_eq_false hq]; rfl
            have HLN2 : Hid (ls = ((ps.take (i + 1)).filter fun x => decide (x.lot = lot) && !decide (x.use = 0)).map (·.use)) := by show _ = _; rw [HLN.out, decide_eq_false hq]; simp
            rw [← HTN2.out] at hX
            clear hq hx
            go_wp2_with fail
            go_roundw
            case rel => exact ⟨i + 1, ls, by go_num, by omega, by omega, HLN2, hO, hX, hS, hC, hsz2⟩
            case measure => simp [intOf]; omega
        · obtain rfl : i = ps.length := by omega
          have HE : Hid (recU s lot = ls) := by show _ = _; unfold recU; rw [← HPL.out, HPS.out, HL.out, List.take_length]
          have hX9 : StA W p (rec2 s lot) := by unfold rec2; rw [← HPL.out, HPS.out]; rw [List.take_length] at hX; exact hX
          have HLB : Hid (∀ k, p.has k → k < w2.heap.size) := fun k hk => by have h1 := HLT.out k hk; have h2 := hBS2.out; omega
          obtain ⟨A, c, rfl, _⟩ := hO.form (fun _ => rfl)
          have HOF := hide (hO.from_ hBS2.out)
          clear hX hS
          by_cases hne : ls = []
          · subst hne
            go_wp2_with fail
            refine (AnyM.slices_Sort_int_none sortILays A c W).mono ?_
            rintro e W8 ⟨rfl, rfl⟩
            go_wp2_with fail
            refine (Any.slices_Compact_int_empty compILays A c _).mono ?_
            rintro e W8 ⟨rfl, rfl⟩
            go_wp2_with fail
            go_ret2
            exact ⟨A, c, by rw [HE.out, uses_nil]; rfl, by rw [HE.out, uses_nil]; exact Slc.nil_, HOF.out, hX9, hC⟩
          · obtain ⟨g, rfl, hg, hgl, hcap, hH, hSO⟩ := own_row hO hne
            have hnp : ¬ p.has g := fun hh => by have := HLB.out g hh; omega
            have hns : NoSpan W g := NoSpan.own hO (by decide) rfl
            obtain ⟨ts, hts⟩ : ∃ ts, (ls.mergeSort fun x y => decide (x ≤ y)) = ts := ⟨_, rfl⟩
            have hlen : ts.length = ls.length := by rw [← hts, List.length_mergeSort]
            have HTS := hide hts
            go_wp2_with fail
            refine (AnyM.slices_Sort_int sortILays g 0 c ls W hH hgl (by omega)).mono ?_
            rintro e W5 ⟨rfl, n, os, hw⟩
            rw [hts] at hw
            obtain ⟨hgr, hO5⟩ := hSO ts n os W5 hlen hw
            have hX5 := hX9.far (S := fun k => k = g) (.of_grown hgr rfl) (fun k hk => by subst hk; exact ⟨hnp, hns⟩)
            have hC5 : Chg p.has w W5 := hC.trans' (.of_grown (S := fun k => k = g) hgr rfl) (fun k hk he => by have := hBS2.out; omega)
            have hne5 : ts ≠ [] := fun h => by rw [h] at hlen; exact hne (List.length_eq_zero_iff.1 hlen.symm)
            have hns5 : NoSpan W5 g := NoSpan.own hO5 (by decide) rfl
            rw [← hlen] at hO5
            obtain ⟨g', hg', _, hgl5, hcap5, hH5, hSO5⟩ := own_row hO5 hne5
            obtain rfl : g = g' := by injection hg' with hg'; injection hg'
            have hcp := Any.slices_Compact_int compILays g 0 c ts W5 hH5 (by omega) hcap5
            rw [hlen] at hcp
            have HL5 := hide hlen
            have HSO5 := hide hSO5
            clear hw hSO hH hO hX9 hC hgr hO5 hts hlen hSO5 hg' hH5
            go_wp2_with fail
            refine hcp.mono ?_
            rintro e W6 ⟨rfl, q, hw6⟩
            have hcl : (Go.Lib.compact ts).length ≤ ts.length := Go.Lib.compact_length_le ts
            obtain ⟨hgr6, hO6⟩ := HSO5.out (Go.Lib.compact ts ++ List.replicate (ls.length - (Go.Lib.compact ts).length) 0) q #[] W6 (by rw [List.length_append, List.length_replicate]; have := HL5.out; omega) (by rw [hw6, grow_empty])
            have hX6 := hX5.far (S := fun k => k = g) (.of_grown hgr6 rfl) (fun k hk => by subst hk; exact ⟨hnp, hns5⟩)
            have hC6 : Chg p.has w W6 := hC5.trans' (.of_grown (S := fun k => k = g) hgr6 rfl) (fun k hk he => by have := hBS2.out; omega)
            obtain ⟨A6, c6, he6, hsl6⟩ := hO6.form (fun _ => rfl)
            have hA6 : A6 = some ⟨g, 0, none⟩ := by injection he6 with he6; exact he6.symm
            rw [hA6] at hsl6
            have hsl7 : Slc intEnc 1 W6 W6.heap.size (some ⟨g, 0, none⟩) (Go.Lib.compact ts) := fun i x hx => hsl6 i x (by rw [List.getElem?_append_left (List.getElem?_eq_some_iff.1 hx).1]; exact hx)
            have HU : Hid (usesF (recU s lot) = Go.Lib.compact ts) := by show _ = _; unfold usesF; rw [HE.out, HTS.out]
            clear hw6 hcp hgr6 hO6 hX5 hC5 he6 hA6 hsl6
            go_wp2_with fail
            go_ret2
            exact ⟨some ⟨g, 0, none⟩, c, by rw [HU.out]; rfl, by rw [HU.out]; exact hsl7, HOF.out, hX6, hC6⟩
end Go.Proofs.Ytpeokpnjnmgloaa
