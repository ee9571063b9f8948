/- Parts of the proofs of this seat: Expire. Each part says what it proves; no condition beyond those stated there. -/
import Derived.Test.YtehlbomkldnalaaGreatQ14
import Derived.Test.YtehlbomkldnalaaGreatQ15

/- Expire: the walk. -/
namespace Go.Proofs.YtehlbomkldnalaaGreat
open Go Go.RowKit
theorem few_scrap {s : SS} (f : Few s) (id : Int) : Few (scrapF s id) := by
 unfold scrapF
 split
 ·exact ⟨Nat.le_trans (len_del _ _) f.it, f.pc, f.pa, f.lo, f.la, f.re⟩
 ·split
  ·exact ⟨f.it, Nat.le_trans (len_del _ _) f.pc, f.pa, f.lo, f.la, f.re⟩
  ·exact f
theorem few_scrapI (P : Sheet → Bool) : ∀ (l : List Sheet) {s : SS}, Few s → Few (scrapI P l s)
 | [], _, f => f
 | x :: l, s, f => by
  have : scrapI P (x :: l) s = scrapI P l (if P x then scrapF s x.id else s) := rfl
  rw [this]
  split
  ·exact few_scrapI P l (few_scrap f _)
  ·exact few_scrapI P l f
theorem few_scrapP (P : Piece → Bool) : ∀ (l : List Piece) {s : SS}, Few s → Few (scrapP P l s)
 | [], _, f => f
 | x :: l, s, f => by
  have : scrapP P (x :: l) s = scrapP P l (if P x then scrapF s x.id else s) := rfl
  rw [this]
  split
  ·exact few_scrapP P l (few_scrap f _)
  ·exact few_scrapP P l f
theorem scrapI_pre {s : SS} (h : Inv s) (P : Sheet → Bool) (i : Nat) : Inv (scrapI P ((itemsL s).take i) s) ∧ Same s (scrapI P ((itemsL s).take i) s) := by
 have hs := items_shows h
 obtain ⟨a1, a2, _⟩ := scrapI_all P ((itemsL s).take i) h (hs.s.sublist (List.take_sublist _ _)) fun x hx => (hs.m x).1 (List.mem_of_mem_take hx)
 exact ⟨a1, a2⟩
theorem sh_at {w : World} {B : Nat} {A : Option Addr} {hs : List SH} {i : Nat} {x : Sheet} {A' : Option Addr} {c' : Nat} (h : Slc SH.enc 9 w B A hs) (hi : hs[i]? = some (SH.of x A' c')) : ∃ b off, A = some ⟨b, off, none⟩ ∧ b < B ∧
  w.cell? ⟨b, off + i * 9, none⟩ = some (.int .i64 x.id) ∧ w.cell? ⟨b, off + i * 9 + 1, none⟩ = some (.int .i64 x.root) ∧ w.cell? ⟨b, off + i * 9 + 2, none⟩ = some (.int .i64 x.grade) ∧ w.cell? ⟨b, off + i * 9 + 3, none⟩ = some (.int .i64 x.colour) ∧ w.cell? ⟨b, off + i * 9 + 4, none⟩ = some (.int .i64 x.lot) ∧
  w.cell? ⟨b, off + i * 9 + 5, none⟩ = some (.int .i64 x.made) ∧ w.cell? ⟨b, off + i * 9 + 6, none⟩ = some (.int .i64 x.width) ∧ w.cell? ⟨b, off + i * 9 + 7, none⟩ = some (.int .i64 x.length) ∧ w.cell? ⟨b, off + i * 9 + 8, none⟩ = some (.slice A' x.faults.length c') := by
 obtain ⟨b, off, hA, hb, h0⟩ := h i _ hi
 exact ⟨b, off, hA, hb, h0 0 _ rfl, h0 1 _ rfl, h0 2 _ rfl, h0 3 _ rfl, h0 4 _ rfl, h0 5 _ rfl, h0 6 _ rfl, h0 7 _ rfl, h0 8 _ rfl⟩
theorem own_base {α : Type} {w : World} {base : Nat} {e : TypeId} {sz : Nat} {f : α → List Value} {v : Value} {l : List α} (h : Own w base e sz f v l) : ∀ k, v.ownBlock = some k → base ≤ k := fun k hk => (World.ownsRow.lt h k hk).1
theorem StA.grownO {α : Type} {w w' : World} {p : Fp} {s : SS} {base : Nat} {e : TypeId} {sz : Nat} {f : α → List Value} {v : Value} {l : List α} (h : StA w p s) (hO : Own w base e sz f v l) (he : e ≠ 57) (hlt : ∀ k, p.has k → k < base) (hg : w.grownBy w' v.ownBlock) : StA w' p s :=
 h.far (S := fun b => v.ownBlock = some b) (.of_grown' hg fun _ h => h) fun k hk => ⟨fun hh => by have h1 := hlt k hh; have h2 := own_base hO k hk; omega, NoSpan.own hO he hk⟩
theorem Blk.grownO {α : Type} {w w' : World} {b : Nat} {t : TypeId} {cs : Array Value} {base : Nat} {e : TypeId} {sz : Nat} {f : α → List Value} {v : Value} {l : List α} (h : Blk w b t cs) (hO : Own w base e sz f v l) (he : e ≠ t) (hg : w.grownBy w' v.ownBlock) : Blk w' b t cs := by
 refine h.grown hg fun hq => ?_
 rcases hO.2 with ⟨h1, _⟩ | ⟨g, cap, cur, h1, _, h3, _⟩
 ·rw [h1] at hq; cases hq
 ·rw [h1] at hq
  have hb : b = g := by injection hq
  subst hb
  unfold Blk at h
  rw [h] at h3
  injection h3 with h3
  injection h3 with _ h3
  exact he h3.symm
theorem Chg.grownO {α : Type} {S : Nat → Prop} {w0 w w' : World} {base : Nat} {e : TypeId} {sz : Nat} {f : α → List Value} {v : Value} {l : List α} (h : Chg S w0 w) (hO : Own w base e sz f v l) (hb : w0.heap.size ≤ base) (hg : w.grownBy w' v.ownBlock) : Chg S w0 w' :=
 h.trans' (.of_grown' (S := fun b => v.ownBlock = some b) hg fun _ h => h) fun i hi hT => by have := own_base hO i hT; omega
def ExpPost (p : Fp) (s : SS) (day : Int) (w : World) (e : Ending) (w' : World) : Prop :=
 ∃ (A : Option Addr) (c : Nat), e = .returned (.tuple #[.slice A (expL s day).length c, .int .i64 0]) ∧ Slc intEnc 1 w' w'.heap.size A (expL s day) ∧ (∀ ad, A = some ad → w.heap.size ≤ ad.block) ∧ StA w' p (expS s day) ∧ Chg p.has w w'
theorem expire_bad (p : Fp) (s : SS) (day : Int) (w : World) (hX : StA w p s) (hd : inB 0 day 100000 = false) : Calls Tryz.prog 30 #[.pointer (some ⟨p.g, 0, none⟩), day] w fun e w' => e = .returned (.tuple #[.slice none 0 0, .int .i64 2]) ∧ w = w' := by
 have c5 := hX.blk.cell_ 5 (v := .bool true) rfl
 go_enter Tryz.func30, Tryz.ntmps30
 go_wp2_with fail
 refine (none_any p.g _ c5).mono ?_
 rintro e W' ⟨rfl, rfl⟩
 go_wp2_with fail
 refine (within_is 0 day 100000 _ hd).mono ?_
 rintro e W' ⟨rfl, rfl⟩
 go_wp2_with fail
 go_ret2
 exact ⟨rfl, rfl⟩
set_option maxRecDepth 100000 in
set_option maxHeartbeats 4000000 in
theorem expire_any (p : Fp) (s : SS) (day : Int) (w : World) (hX : StA w p s) (hI : Inv s) (hF : Few s) (hd : inB 0 day 100000 = true) : Calls Tryz.prog 30 #[.pointer (some ⟨p.g, 0, none⟩), day] w (ExpPost p s day w) := by
 have HI := hide hI
 have HF := hide hF
 have HD := hide (inB_iff.1 hd)
 have c5 := hX.blk.cell_ 5 (v := .bool true) rfl
 have HLT : Hid (∀ k, p.has k → k < w.heap.size) := fun k hk => hX.lt hk
 clear hI hF
 go_enter Tryz.func30, Tryz.ntmps30
 go_wp2_with fail
 refine (none_any p.g _ c5).mono ?_
 rintro e W' ⟨rfl, rfl⟩
 clear c5
 go_wp2_with fail
 refine (within_is 0 day 100000 _ hd).mono ?_
 rintro e W' ⟨rfl, rfl⟩
 clear hd
 go_wp2_with fail
 refine (items_any p s w hX HI.out HF.out).mono ?_
 rintro e w1 ⟨A1, c1, hs, rfl, hS1, hIn, hb1, hA1⟩
 have hX1 := hX.below hb1
 have hC1 : Chg p.has w w1 := .of_below hb1
 have HA1 : Hid (∀ ad, A1 = some ad → ¬ p.has ad.block) := fun ad ha hh => by have h1 := hA1 ad ha; have h2 := HLT.out _ hh; omega
 obtain ⟨xs, hxs⟩ := nm_ (itemsL s)
 rw [hxs] at hIn
 rw [hxs]
 have HXS := hide hxs
 have hxl : xs.length ≤ 1000000 := by rw [← hxs]; unfold itemsL; rw [vals_len HI.out.ki]; exact HF.out.it
 have HIN := hide hIn
 have hbsz := hb1.size
 have HBS := hide hbsz
 clear hX hb1 hA1 hxs hIn
 go_upto_block 5 with fail
 go_loopw [6, 19] (fun v z wr => ∃ (i : Nat) (ls : List Int), z = .int .i64 i ∧ i ≤ xs.length ∧ ls.length ≤ i ∧ Hid (ls = ((xs.take i).filter fun x => oldF s.rules x day).map (·.id)) ∧ Own wr w1.heap.size 3 1 intEnc v ls ∧ StA wr p (scrapI (fun x => oldF s.rules x day) (xs.take i) s) ∧ Slc SH.enc 9 wr w1.heap.size A1 hs ∧ Chg p.has w wr ∧ w1.heap.size ≤ wr.heap.size) (fun _ z _ => xs.length - (intOf z).toNat)
 case atStart => exact ⟨0, [], rfl, Nat.zero_le _, Nat.zero_le _, rfl, Own.nil_, hX1, hS1, hC1, Nat.le_refl _⟩
 case round =>
  obtain ⟨W, rfl⟩ := is_ wr
  obtain ⟨i, ls, rfl, hi, hll, HL, hO, hX, hS, hC, hsz⟩ := hrel
  clear hX1 hS1 hC1
  by_cases hlt : i < xs.length
  ·obtain ⟨x, hx⟩ : ∃ x, xs[i]? = some x := ⟨_, List.getElem?_eq_getElem hlt⟩
   obtain ⟨A, c, hh, _⟩ := HIN.out.at_ hx
   obtain ⟨bS, oS, hAS, hbS, d0, d1, d2, d3, d4, d5, d6, d7, d8⟩ := sh_at hS hh
   have hii : (i : Int) < (xs.length : Int) := by omega
   have ei := wsuc i (by omega)
   obtain ⟨P1, P2⟩ := scrapI_pre HI.out (fun x => oldF s.rules x day) i
   rw [HXS.out] at P1 P2
   obtain ⟨t, ht⟩ := nm_ (scrapI (fun x => oldF s.rules x day) (xs.take i) s)
   have HTN : Hid (scrapI (fun x => oldF s.rules x day) (xs.take (i + 1)) s = if oldF s.rules x day then scrapF t x.id else t) := by
    show _ = _
    rw [List.take_add_one, hx, Option.toList_some, scrapI_snoc, ht]
   have HFT : Hid (Few t) := by show Few t; rw [← ht]; exact few_scrapI _ _ HF.out
   rw [ht] at hX P1 P2
   have HP1 := hide P1
   have HP2 := hide P2
   have HOK : Hid (ItemOk s x) := (HI.out.it _ _ (((items_shows HI.out).m x).1 (by rw [HXS.out]; exact List.mem_of_getElem? hx))).2
   have HLN : Hid (((xs.take (i + 1)).filter fun x => oldF s.rules x day).map (·.id) = ls ++ if oldF s.rules x day then [x.id] else []) := by
    show _ = _
    rw [List.take_add_one, hx, Option.toList_some, List.filter_append, List.map_append, HL.out]
    cases hq : oldF s.rules x day with
    | true => rw [if_pos rfl, List.filter_cons_of_pos (by simpa using hq)]; rfl
    | false => rw [if_neg (by decide), List.filter_cons_of_neg (by simp [hq])]; rfl
   subst hAS
   clear ht P1 P2 hx hh
   have hx := Blk.new W 93 ↑(x, A, c)
   have hal := (Below.refl W.heap.size W).alloc (Nat.le_refl _) (.cells ↑(x, A, c) 93)
   replace hO := hO.below hal
   replace hX := hX.below hal
   replace hS := hS.below (hal.mono hsz)
   replace hC := hC.trans (.of_below hal)
   have hsz2 : w1.heap.size ≤ (W.alloc (.cells ↑(x, A, c) 93)).heap.size := Nat.le_trans hsz hal.size
   go_upto_region 7 with fail
   clear d0 d1 d2 d3 d4 d5 d6 d7 d8 hal hsz
   generalize W.alloc (.cells ↑(x, A, c) 93) = W3 at *
   generalize W.heap.size = bx at *
   obtain ⟨W, rfl⟩ := is_ W3
   obtain ⟨x0, x1, x2, x3, x4, x5, x6, x7, x8⟩ := hx.all9
   cases hq : oldF s.rules x day with
   | false =>
    have HTN2 : Hid (scrapI (fun x => oldF s.rules x day) (xs.take (i + 1)) s = t) := by show _ = _; rw [HTN.out, hq]; rfl
    have HLN2 : Hid (ls = ((xs.take (i + 1)).filter fun x => oldF s.rules x day).map (·.id)) := by show _ = _; rw [HLN.out, hq]; simp
    have hq2 : oldF t.rules x day = false := by rw [HP2.out.ru]; exact hq
    clear hq
    go_wp2_with fail
    refine (old_is p t x A c day _ hX HOK.out.g HOK.out.m HD.out hq2).mono ?_
    rintro e W5 ⟨rfl, hb⟩
    clear x0 x1 x2 x3 x4 x5 x6 x7 x8
    replace hO := hO.below hb
    replace hX := hX.below hb
    replace hS := hS.below (hb.mono hsz2)
    replace hC := hC.trans (.of_below hb)
    have hsz5 := Nat.le_trans hsz2 hb.size
    clear hb hq2 hx hsz2
    rw [← HTN2.out] at hX
    go_wp2_with fail
    go_roundw
    case rel => exact ⟨i + 1, ls, by go_num, by omega, by omega, HLN2, hO, hX, hS, hC, hsz5⟩
    case measure => simp [intOf]; omega
   | true =>
    have HTN2 : Hid (scrapI (fun x => oldF s.rules x day) (xs.take (i + 1)) s = scrapF t x.id) := by show _ = _; rw [HTN.out, hq]; rfl
    have HLN2 : Hid (ls ++ [x.id] = ((xs.take (i + 1)).filter fun x => oldF s.rules x day).map (·.id)) := by show _ = _; rw [HLN.out, hq]; simp
    have hq2 : oldF t.rules x day = true := by rw [HP2.out.ru]; exact hq
    clear hq
    go_wp2_with fail
    refine (old_is p t x A c day _ hX HOK.out.g HOK.out.m HD.out hq2).mono ?_
    rintro e W5 ⟨rfl, hb⟩
    clear x0 x1 x2 x3 x4 x5 x6 x7 x8
    replace hO := hO.below hb
    replace hX := hX.below hb
    replace hS := hS.below (hb.mono hsz2)
    replace hC := hC.trans (.of_below hb)
    replace hx := hx.below hb hx.lt
    have hsz5 := Nat.le_trans hsz2 hb.size
    clear hb hq2 hsz2
    have x0 := hx.cell_ 0 (v := x.id) rfl
    go_upto_region 9 with (at_builtin; refine wpList_app_own (base := w1.heap.size) (f := intEnc) (ys := [x.id]) _ _ rfl rfl et_ints (hO.alloc _) rfl rfl ((Blk.new W5 3 #[x.id]).slc1 rfl) rfl (fun _ => rfl) intEnc_one (by simp <;> omega) (by simp <;> omega) ?_; intro v6 W6 hO6 hb6 hg6)
    have hal := (Below.refl W5.heap.size W5).alloc (Nat.le_refl _) (.cells #[x.id] 3)
    have HLB : Hid (∀ k, p.has k → k < w1.heap.size) := fun k hk => by have h1 := HLT.out k hk; have h2 := HBS.out; omega
    replace hX := (hX.below hal).grownO (hO.alloc _) (by decide) HLB.out hg6
    replace hx := (hx.below hal hx.lt).grownO (hO.alloc _) (by decide) hg6
    replace hC := (hC.trans (.of_below hal)).grownO (hO.alloc _) HBS.out hg6
    replace hS := (hS.below (hal.mono hsz5)).below hb6
    replace hsz5 := Nat.le_trans (Nat.le_trans hsz5 hal.size) hb6.size
    clear hO hal hb6 hg6 x0
    have x0 := hx.cell_ 0 (v := x.id) rfl
    try dsimp only [Act.put]
    go_wp2_with fail
    refine (scrap_any p t x.id W6 hX HP1.out HFT.out).mono ?_
    rintro e W7 ⟨rfl, hX7, hC7⟩
    rw [← HTN2.out] at hX7
    replace hO6 := hO6.chgN hC7 fun k hk hh => by have h1 := HLB.out k hh; have h2 := own_base hO6 k hk; omega
    replace hS := hS.chgA hC7 hsz5 HA1.out
    replace hC := hC.trans hC7
    replace hsz5 := Nat.le_trans hsz5 hC7.size
    clear hX hx x0 hC7
    go_wp2_with fail
    go_roundw
    case rel => exact ⟨i + 1, ls ++ [x.id], by go_num, by omega, by simp; omega, HLN2, hO6, hX7, hS, hC, hsz5⟩
    case measure => simp [intOf]; omega
  ·obtain rfl : i = xs.length := by omega
   have HE : Hid (expL s day = ls) := by show _ = _; unfold expL; rw [HXS.out, HL.out, List.take_length]
   have HS9 : StA W p (expS s day) := by unfold expS; rw [HXS.out]; rw [List.take_length] at hX; exact hX
   obtain ⟨A, c, rfl, hsl⟩ := hO.form (fun _ => rfl)
   have HOF := hide (hO.from_ HBS.out)
   clear hX
   go_wp2_with fail
   go_ret2
   exact ⟨A, c, by rw [HE.out]; rfl, by rw [HE.out]; exact hsl, HOF.out, HS9, hC⟩
end Go.Proofs.YtehlbomkldnalaaGreat
