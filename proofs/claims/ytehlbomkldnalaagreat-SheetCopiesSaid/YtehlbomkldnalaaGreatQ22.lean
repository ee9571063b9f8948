/- Parts of the proofs of this seat: TakeP, Take, Lots, OneLotP. Each part says what it proves; no condition beyond those stated there. -/
import Derived.Test.YtehlbomkldnalaaGreatQ10
import Derived.Test.YtehlbomkldnalaaGreatQ20
import Derived.Test.YtehlbomkldnalaaGreatQ21
import Derived.Test.YtehlbomkldnalaaGreatQ34

/- Take of the store: plain. -/
namespace Go.Proofs.YtehlbomkldnalaaGreat
noncomputable def takeFrom (s : SS) (n : Need) (day : Int) : List Int → Option (SS × List Piece)
 | [] => none
 | lot :: r => match cutAllF n lot day n.count.toNat s with
  | some q => some q
  | none => takeFrom s n day r
noncomputable def takeF (s : SS) (n : Need) (day : Int) : Option (SS × List Piece) := takeFrom s n day (ordF s n)
noncomputable def takeS (s : SS) (n : Need) (day : Int) : SS := if needB n day then match takeF s n day with | some q => q.1 | none => s else s
noncomputable def takeE (s : SS) (n : Need) (day : Int) : Int := if needB n day then match takeF s n day with | some _ => 0 | none => 24 else 2
noncomputable def takeL (s : SS) (n : Need) (day : Int) : List Piece := if needB n day then match takeF s n day with | some q => q.2 | none => [] else []
theorem takeFrom_some {s : SS} {n : Need} {day : Int} : ∀ {ls : List Int} {q : SS × List Piece}, takeFrom s n day ls = some q → ∃ lot ∈ ls, cutAllF n lot day n.count.toNat s = some q
 | [], q, h => by cases h
 | lot :: r, q, h => by
  unfold takeFrom at h
  cases hc : cutAllF n lot day n.count.toNat s with
  | some q2 => rw [hc] at h; injection h with h; subst h; exact ⟨lot, by simp, hc⟩
  | none =>
   rw [hc] at h
   obtain ⟨l2, h1, h2⟩ := takeFrom_some (ls := r) h
   exact ⟨l2, List.mem_cons_of_mem _ h1, h2⟩
theorem from_next {s : SS} {n : Need} {day : Int} {ls : List Int} {i : Nat} {lot : Int} (h : ls[i]? = some lot) (hc : cutAllF n lot day n.count.toNat s = none) : takeFrom s n day (ls.drop i) = takeFrom s n day (ls.drop (i + 1)) := by
 have hi := (List.getElem?_eq_some_iff.1 h).1
 rw [List.drop_eq_getElem_cons hi, (List.getElem?_eq_some_iff.1 h).2]
 show (match cutAllF n lot day n.count.toNat s with | some q => some q | none => takeFrom s n day (ls.drop (i + 1))) = _
 rw [hc]
theorem from_here {s : SS} {n : Need} {day : Int} {ls : List Int} {i : Nat} {lot : Int} {q : SS × List Piece} (h : ls[i]? = some lot) (hc : cutAllF n lot day n.count.toNat s = some q) : takeFrom s n day (ls.drop i) = some q := by
 have hi := (List.getElem?_eq_some_iff.1 h).1
 rw [List.drop_eq_getElem_cons hi, (List.getElem?_eq_some_iff.1 h).2]
 show (match cutAllF n lot day n.count.toNat s with | some q => some q | none => takeFrom s n day (ls.drop (i + 1))) = _
 rw [hc]
theorem take_inv {s : SS} (h : Inv s) (n : Need) (day : Int) : Inv (takeS s n day) ∧ Ext s (takeS s n day) := by
 unfold takeS
 split
 ·rename_i hv
  cases hq : takeF s n day with
  | none => exact ⟨h, Ext.refl s⟩
  | some q =>
   obtain ⟨lot, _, hc⟩ := takeFrom_some hq
   exact cutAll_inv (needB_ok hv).1 h (l := q.2) (by rw [hc])
 ·exact ⟨h, Ext.refl s⟩
theorem take_room {s : SS} {r : Nat} (h : Room s (r + 50)) (n : Need) (day : Int) : Room (takeS s n day) r := by
 unfold takeS
 split
 ·rename_i hv
  cases hq : takeF s n day with
  | none => exact h.less (by omega)
  | some q =>
   obtain ⟨lot, _, hc⟩ := takeFrom_some hq
   have := (needB_ok hv).1.c
   exact room_all (k := n.count.toNat) (r := r) (s' := q.1) (l := q.2) (h.less (by omega)) (by rw [hc])
 ·exact h.less (by omega)
end Go.Proofs.YtehlbomkldnalaaGreat

/- Take: the walk. -/
namespace Go.Proofs.YtehlbomkldnalaaGreat
open Go Go.RowKit
theorem cutAll_none (p : Fp) (s : SS) (n : Need) (lot day : Int) (w : World) (hX : StA w p s) (hI : Inv s) (hF : Room s n.count.toNat) (hn : NeedOk n) (hd : 0 ≤ day ∧ day ≤ 100000) (hc : cutAllF n lot day n.count.toNat s = none) :
  Calls Tryz.prog 55 #[.pointer (some ⟨p.g, 0, none⟩), .agg ↑n, lot, day] w fun e w' => e = .returned (.tuple #[.slice none 0 0, .bool false]) ∧ Chg p.has w w' := by
 refine (cutAll_any p s n lot day w hX hI hF hn hd).mono ?_
 intro e w' h
 unfold CutAllPost at h
 rw [hc] at h
 exact h
theorem cutAll_some (p : Fp) (s : SS) (n : Need) (lot day : Int) (w : World) (hX : StA w p s) (hI : Inv s) (hF : Room s n.count.toNat) (hn : NeedOk n) (hd : 0 ≤ day ∧ day ≤ 100000) {s' : SS} {l : List Piece} (hc : cutAllF n lot day n.count.toNat s = some (s', l)) :
  Calls Tryz.prog 55 #[.pointer (some ⟨p.g, 0, none⟩), .agg ↑n, lot, day] w fun e w' => ∃ A c, e = .returned (.tuple #[.slice A l.length c, .bool true]) ∧ Slc Piece.enc 8 w' w'.heap.size A l ∧ (∀ ad, A = some ad → w.heap.size ≤ ad.block) ∧ StA w' p s' ∧ Chg p.has w w' := by
 refine (cutAll_any p s n lot day w hX hI hF hn hd).mono ?_
 intro e w' h
 unfold CutAllPost at h
 rw [hc] at h
 exact h
theorem StA.move {w w' : World} {p2 : Fp} {s2 : SS} {g : Nat} {cs : Array Value} (h : StA w p2 s2) (hB : Blk w' g 67 (storeCells_ s2 p2.ri p2.rp p2.rq p2.rl)) (hc : Chg (fun k => k = g) w w') (hg : Blk w g 67 cs) : StA w' ⟨g, p2.ri, p2.rp, p2.rq, p2.rl⟩ s2 := by
 obtain ⟨MI, hm, hz⟩ := h.items
 have hS : ∀ k, k = g → NoSpan w k := fun k hk => by subst hk; exact NoSpan.blk hg (by decide)
 exact ⟨hB, ⟨MI, hm.chg hc (hm.blk_ne hg), hz.imp fun x v hv => hv.chg hc hS⟩, h.pieces.chg hc (h.pieces.blk_ne hg), h.parent.chg hc (h.parent.blk_ne hg), h.lots.chg hc (h.lots.blk_ne hg), h.ne⟩
def TakePost (p : Fp) (s : SS) (n : Need) (day : Int) (w : World) (e : Ending) (w' : World) : Prop :=
 ∃ p' A c, e = .returned (.tuple #[.slice A (takeL s n day).length c, .int .i64 (takeE s n day)]) ∧ Stp w p (takeS s n day) w' p' ∧ Slc Piece.enc 8 w' w'.heap.size A (takeL s n day) ∧ ∀ ad, A = some ad → w.heap.size ≤ ad.block ∧ ¬ p'.has ad.block
theorem take_post0 {p : Fp} {s : SS} {n : Need} {day : Int} {w w' : World} {e : Ending} {er : Int} (h1 : takeL s n day = []) (h2 : takeE s n day = er) (h3 : takeS s n day = s) (he : e = .returned (.tuple #[.slice none 0 0, er])) (hX : StA w' p s) (hC : Chg p.has w w') : TakePost p s n day w e w' := by
 refine ⟨p, none, 0, by rw [h1, h2]; exact he, by rw [h3]; exact .mk1 hX hC, by rw [h1]; exact Slc.nil_, fun ad h => by cases h⟩
set_option maxRecDepth 100000 in
set_option maxHeartbeats 4000000 in
theorem take_any (p : Fp) (s : SS) (n : Need) (day : Int) (w : World) (hX : StA w p s) (hI : Inv s) (hF : Room s 50) :
  Calls Tryz.prog 21 #[.pointer (some ⟨p.g, 0, none⟩), .agg ↑n, day] w (TakePost p s n day w) := by
 have HI := hide hI
 have HF := hide hF
 have hn := Blk.new w 45 ↑n
 have hal := (Below.refl w.heap.size w).alloc (Nat.le_refl _) (.cells ↑n 45)
 have HLT : Hid (∀ k, p.has k → k < w.heap.size) := fun k hk => hX.lt hk
 replace hX := hX.below hal
 clear hI hF
 go_enter Tryz.func21, Tryz.ntmps21
 go_upto_region 1 with fail
 generalize w.alloc (.cells ↑n 45) = W at *
 obtain ⟨b0, hb0⟩ := nm_ w.heap.size
 rw [hb0] at hn ⊢
 have HB0 := hide hb0
 clear hb0
 have c5 := hX.blk.cell_ 5 (v := .bool true) rfl
 obtain ⟨y0, y1, y2, y3, y4⟩ := hn.all5
 cases hv : needB n day with
 | false =>
  have H1 : Hid (takeL s n day = [] ∧ takeE s n day = 2 ∧ takeS s n day = s) := by
   show _ ∧ _ ∧ _
   unfold takeL takeE takeS; rw [hv]; exact ⟨rfl, rfl, rfl⟩
  go_wp2_with fail
  refine (none_any p.g _ c5).mono ?_
  rintro e W' ⟨rfl, rfl⟩
  go_wp2_with fail
  refine (validNeed_is n day _ hv).mono ?_
  rintro e W2 ⟨rfl, hb2⟩
  have hX2 := hX.below hb2
  have hC2 : Chg p.has w W2 := .of_below (hal.trans (hb2.mono hal.size))
  clear c5 y0 y1 y2 y3 y4 hv hX hn hal hb2
  go_wp2_with fail
  go_ret2
  exact take_post0 H1.out.1 H1.out.2.1 H1.out.2.2 rfl hX2 hC2
 | true =>
  have HV := hide hv
  go_wp2_with fail
  refine (none_any p.g _ c5).mono ?_
  rintro e W' ⟨rfl, rfl⟩
  go_wp2_with fail
  refine (validNeed_is n day _ hv).mono ?_
  rintro e W2 ⟨rfl, hb2⟩
  replace hX := hX.below hb2
  replace hn := hn.below hb2 hn.lt
  have hB := hal.trans (hb2.mono hal.size)
  clear c5 y0 y1 y2 y3 y4 hv hal hb2
  obtain ⟨W, rfl⟩ := is_ W2
  obtain ⟨y0, y1, y2, y3, y4⟩ := hn.all5
  go_wp2_with fail
  refine (ordered_any p s n _ hX HI.out HF.out.few).mono ?_
  rintro e W2 ⟨AL, cL, rfl, hL, hb2, _⟩
  replace hX := hX.below hb2
  replace hn := hn.below hb2 hn.lt
  replace hB := hB.trans (hb2.mono hB.size)
  clear y0 y1 y2 y3 y4 hb2
  obtain ⟨ls, hls⟩ := nm_ (ordF s n)
  have HLS := hide hls
  have hll : ls.length ≤ 1000000 := by rw [← hls]; unfold ordF; rw [sortK_len]; exact Nat.le_trans (lots_len s n) HF.out.few.lo
  rw [hls] at hL ⊢
  clear hls
  obtain ⟨w2, rfl⟩ := is_ W2
  have HX := hide hX
  have HNB := hide hn
  have HB := hide hB
  have HN := hide (needB_ok HV.out).1
  have HD := hide (needB_ok HV.out).2
  have HR : Hid (Room s n.count.toNat) := HF.out.less (by have := HN.out.c; omega)
  clear hX hn hB
  have hw0 : w.heap.size ≤ w2.heap.size := HB.out.size
  have HW0 := hide hw0
  clear hw0
  go_upto_region 4 with fail
  go_loopw [25] (fun z wr => ∃ (i : Nat), z = .int .i64 i ∧ i ≤ ls.length ∧ Hid (takeFrom s n day (ls.drop i) = takeF s n day) ∧ Below w2.heap.size w2 wr) (fun z _ => ls.length - (intOf z).toNat)
  case atStart => exact ⟨0, rfl, Nat.zero_le _, (by show _ = _; unfold takeF; rw [HLS.out]; rfl : Hid _), Below.refl _ _⟩
  case round =>
   obtain ⟨W, rfl⟩ := is_ wr
   obtain ⟨i, rfl, hi, HTF, hB⟩ := hrel
   have hBs := hB.size
   by_cases hlt : i < ls.length
   ·obtain ⟨lot, bK, oK, hk, hA, hbK, d0⟩ := ints_at' (hL.below hB) hlt
    have hii : (i : Int) < (ls.length : Int) := by omega
    have ei := wsuc i (by omega)
    have hXW := HX.out.below hB
    have HK := hide hk
    subst hA
    clear hk
    go_wp2_with fail
    refine (copy_any p s W hXW).mono ?_
    rintro e W3 ⟨p2, rfl, hX2, hnew, hb3⟩
    have hX3 := hXW.below hb3
    have hn3 := (HNB.out.below hB HNB.out.lt).below hb3 (Nat.lt_of_lt_of_le HNB.out.lt hBs)
    have hB3 := hB.trans (hb3.mono hBs)
    have HNEW : Hid (∀ k, p2.has k → w2.heap.size ≤ k) := fun k hk => Nat.le_trans hBs (hnew k hk)
    have HP2 : Hid (∀ k, p2.has k → k < W3.heap.size) := fun k hk => hX2.lt hk
    clear d0 hXW hnew hb3 hB hBs
    obtain ⟨y0, y1, y2, y3, y4⟩ := hn3.all5
    cases hc : cutAllF n lot day n.count.toNat s with
    | none =>
     have HT : Hid (takeFrom s n day (ls.drop (i + 1)) = takeF s n day) := by show _ = _; rw [← from_next HK.out hc]; exact HTF.out
     have HCN := hide hc
     clear hc
     go_wp2_with fail
     refine (cutAll_none p2 s n lot day W3 hX2 HI.out HR.out HN.out HD.out HCN.out).mono ?_
     rintro e W4 ⟨rfl, hc4⟩
     have hB4 : Below w2.heap.size w2 W4 := hB3.trans (hc4.to_below hB3.size fun k hk hp => by have := HNEW.out k hp; omega)
     clear y0 y1 y2 y3 y4 hX2 hX3 hn3 hB3 hc4
     go_wp2_with fail
     go_roundw
     case rel => exact ⟨i + 1, by go_num, by omega, HT, hB4⟩
     case measure => simp [intOf]; omega
    | some q =>
     obtain ⟨s2, l⟩ := q
     have HTQ : Hid (takeF s n day = some (s2, l)) := by show _ = _; rw [← HTF.out]; exact from_here HK.out hc
     have HCN := hide hc
     clear hc
     go_wp2_with fail
     refine (cutAll_some p2 s n lot day W3 hX2 HI.out HR.out HN.out HD.out HCN.out).mono ?_
     rintro e W4 ⟨A, c, rfl, hS4, hA4, hX4, hc4⟩
     have hgl : p.g < w.heap.size := HLT.out _ (by simp [Fp.has])
     have hB4 : Below w2.heap.size w2 W4 := hB3.trans (hc4.to_below hB3.size fun k hk hp => by have := HNEW.out k hp; omega)
     have hg4 := hX3.blk.chg hc4 (fun hh => by have := HNEW.out _ hh; have := HW0.out; omega)
     have z0 := hX4.blk.cell_ 0 rfl
     have z1 := hX4.blk.cell_ 1 rfl
     have z2 := hX4.blk.cell_ 2 rfl
     have z3 := hX4.blk.cell_ 3 rfl
     have z4 := hX4.blk.cell_ 4 rfl
     have z5 := hX4.blk.cell_ 5 rfl
     have z6 := hX4.blk.cell_ 6 rfl
     have z7 := hX4.blk.cell_ 7 rfl
     have z8 := hX4.blk.cell_ 8 rfl
     have z9 := hX4.blk.cell_ 9 rfl
     have z10 := hX4.blk.cell_ 10 rfl
     have z11 := hX4.blk.cell_ 11 rfl
     have z12 := hX4.blk.cell_ 12 rfl
     have HS4 := hide hS4
     have HA4 := hide hA4
     have HX4 := hide hX4
     have HG4 := hide hg4
     have hsz34 := hc4.size
     have hsz23 := hB3.size
     clear y0 y1 y2 y3 y4 hX2 hX3 hn3 hB3 hc4 hS4 hA4 hX4 hg4
     go_wp2_with (refine wpList_store_blk rfl 67 _ _ rfl #[s2.rules.minWidth, s2.rules.minLength, s2.rules.l0, s2.rules.l1, s2.rules.l2, .bool true, .map (some p2.ri), .map (some p2.rp), .map (some p2.rq), .map (some p2.rl), s2.last, s2.received, s2.waste] HG4.out rfl rfl (by kernel_rfl) rfl (by simp [Value.oneCell']) ?_; intro W5 hB5 hc5; clear z0 z1 z2 z3 z4 z5 z6 z7 z8 z9 z10 z11 z12)
     go_ret2
     have hB6 : Below w.heap.size w W4 := HB.out.trans (hB4.mono HW0.out)
     have e1 : takeL s n day = l ∧ takeE s n day = 0 ∧ takeS s n day = s2 := by
      unfold takeL takeE takeS; rw [HV.out, HTQ.out]; exact ⟨rfl, rfl, rfl⟩
     refine ⟨⟨p.g, p2.ri, p2.rp, p2.rq, p2.rl⟩, A, c, by rw [e1.1, e1.2.1]; rfl, ⟨?_, rfl, ?_, ?_⟩, ?_, ?_⟩
     ·rw [e1.2.2]; exact HX4.out.move hB5 hc5 HG4.out
     ·intro k hk
      rcases hk with hk | hk | hk | hk | hk
      ·left; rw [show k = p.g from hk]; simp [Fp.has]
      all_goals right; exact Nat.le_trans HW0.out (HNEW.out k (by rw [show k = _ from hk]; simp [Fp.has]))
     ·exact (Chg.of_below hB6).trans (hc5.mono fun k _ hk => by rw [hk]; simp [Fp.has])
     ·rw [e1.1]
      exact (HS4.out.chgA hc5 (Nat.le_refl _) fun ad h hk => by have h1 := HA4.out ad h; have hk' : ad.block = p.g := hk; have := HW0.out; omega).more hc5.size
     ·intro ad h
      have h1 := HA4.out ad h
      refine ⟨by have := HW0.out; omega, ?_⟩
      rintro (hk | hk | hk | hk | hk)
      ·have hk' : ad.block = p.g := hk
       have := HW0.out; omega
      all_goals
       have := HP2.out ad.block (by rw [show ad.block = _ from hk]; simp [Fp.has])
       omega
   ·obtain rfl : i = ls.length := by omega
    have HTQ : Hid (takeF s n day = none) := by show _ = _; rw [← HTF.out, List.drop_length]; rfl
    have hXW := HX.out.below hB
    have hCW : Chg p.has w W := .of_below (HB.out.trans (hB.mono HW0.out))
    go_wp2_with fail
    go_ret2
    have e1 : takeL s n day = [] ∧ takeE s n day = 24 ∧ takeS s n day = s := by
     unfold takeL takeE takeS; rw [HV.out, HTQ.out]; exact ⟨rfl, rfl, rfl⟩
    exact take_post0 e1.1 e1.2.1 e1.2.2 rfl hXW hCW
end Go.Proofs.YtehlbomkldnalaaGreat

/- Lots: the walk. -/
namespace Go.Proofs.YtehlbomkldnalaaGreat
open Go Go.RowKit
noncomputable def lotsL (s : SS) (n : Need) (day : Int) : List Int := if needB n day then lotsF s n day (ordF s n) else []
def lotsE (n : Need) (day : Int) : Int := if needB n day then 0 else 2
def LotsPost (s : SS) (n : Need) (day : Int) (w : World) (e : Ending) (w' : World) : Prop :=
 ∃ A c, e = .returned (.tuple #[.slice A (lotsL s n day).length c, .int .i64 (lotsE n day)]) ∧ Slc intEnc 1 w' w'.heap.size A (lotsL s n day) ∧ Below w.heap.size w w' ∧ ∀ ad, A = some ad → w.heap.size ≤ ad.block
theorem lotsF_take {s : SS} {n : Need} {day : Int} {ls : List Int} {i : Nat} {lot : Int} (h : ls[i]? = some lot) : lotsF s n day (ls.take (i + 1)) = lotsF s n day (ls.take i) ++ if (cutAllF n lot day n.count.toNat s).isSome then [lot] else [] := by
 unfold lotsF
 rw [List.take_add_one, h, Option.toList_some, List.filter_append]
 congr 1
 by_cases hc : (cutAllF n lot day n.count.toNat s).isSome = true
 ·rw [if_pos hc, List.filter_cons, if_pos hc]; rfl
 ·rw [if_neg hc, List.filter_cons, if_neg hc]; rfl
def IsPtr (u : Value) : Prop := ∃ g, u = .pointer (some ⟨g, 0, none⟩)
def CopyOf (s : SS) (B : Nat) (u : Value) (w : World) : Prop := ∃ p2 : Fp, u = .pointer (some ⟨p2.g, 0, none⟩) ∧ StA w p2 s ∧ ∀ k, p2.has k → B ≤ k
def CutEnds (b : Bool) (u : Value) : Prop := ∃ A n c, u = .tuple #[.slice A n c, .bool b]
theorem cutAll_ends (p : Fp) (s : SS) (n : Need) (lot day : Int) (w : World) (hX : StA w p s) (hI : Inv s) (hF : Room s n.count.toNat) (hn : NeedOk n) (hd : 0 ≤ day ∧ day ≤ 100000) {b : Bool} (hc : (cutAllF n lot day n.count.toNat s).isSome = b) :
  Calls Tryz.prog 55 #[.pointer (some ⟨p.g, 0, none⟩), .agg ↑n, lot, day] w fun e w' => (∃ u, e = .returned u ∧ CutEnds b u) ∧ Chg p.has w w' := by
 refine (cutAll_any p s n lot day w hX hI hF hn hd).mono ?_
 intro e w' h
 unfold CutAllPost at h
 cases hq : cutAllF n lot day n.count.toNat s with
 | none =>
  rw [hq] at h hc
  obtain rfl : false = b := hc
  exact ⟨⟨_, h.1, none, 0, 0, rfl⟩, h.2⟩
 | some q =>
  rw [hq] at h hc
  obtain rfl : true = b := hc
  obtain ⟨A, c, he, _, _, _, hC⟩ := h
  exact ⟨⟨_, he, A, _, c, rfl⟩, hC⟩
set_option maxRecDepth 100000 in
set_option maxHeartbeats 4000000 in
theorem lots_any (p : Fp) (s : SS) (n : Need) (day : Int) (w : World) (hX : StA w p s) (hI : Inv s) (hF : Room s 50) :
  Calls Tryz.prog 18 #[.pointer (some ⟨p.g, 0, none⟩), .agg ↑n, day] w (LotsPost s n day w) := by
 have HI := hide hI
 have HF := hide hF
 have hn := Blk.new w 45 ↑n
 have hal := (Below.refl w.heap.size w).alloc (Nat.le_refl _) (.cells ↑n 45)
 have HLT : Hid (∀ k, p.has k → k < w.heap.size) := fun k hk => hX.lt hk
 replace hX := hX.below hal
 clear hI hF
 go_enter Tryz.func18, Tryz.ntmps18
 go_upto_region 1 with fail
 generalize w.alloc (.cells ↑n 45) = W at *
 obtain ⟨b0, hb0⟩ := nm_ w.heap.size
 rw [hb0] at hn ⊢
 have HB0 := hide hb0
 clear hb0
 have c5 := hX.blk.cell_ 5 (v := .bool true) rfl
 obtain ⟨y0, y1, y2, y3, y4⟩ := hn.all5
 cases hv : needB n day with
 | false =>
  have H1 : Hid (lotsL s n day = [] ∧ lotsE n day = 2) := by
   show _ ∧ _
   unfold lotsL lotsE; rw [hv]; exact ⟨rfl, rfl⟩
  go_wp2_with fail
  refine (none_any p.g _ c5).mono ?_
  rintro e W' ⟨rfl, rfl⟩
  go_wp2_with fail
  refine (validNeed_is n day _ hv).mono ?_
  rintro e W2 ⟨rfl, hb2⟩
  have hX2 := hX.below hb2
  have hC2 : Below w.heap.size w W2 := hal.trans (hb2.mono hal.size)
  clear c5 y0 y1 y2 y3 y4 hv hX hn hal hb2
  go_wp2_with fail
  go_ret2
  exact ⟨none, 0, by rw [H1.out.1, H1.out.2]; rfl, by rw [H1.out.1]; exact Slc.nil_, hC2, fun ad h => by cases h⟩
 | true =>
  have HV := hide hv
  go_wp2_with fail
  refine (none_any p.g _ c5).mono ?_
  rintro e W' ⟨rfl, rfl⟩
  go_wp2_with fail
  refine (validNeed_is n day _ hv).mono ?_
  rintro e W2 ⟨rfl, hb2⟩
  replace hX := hX.below hb2
  replace hn := hn.below hb2 hn.lt
  have hB := hal.trans (hb2.mono hal.size)
  clear c5 y0 y1 y2 y3 y4 hv hal hb2
  obtain ⟨W, rfl⟩ := is_ W2
  obtain ⟨y0, y1, y2, y3, y4⟩ := hn.all5
  go_wp2_with fail
  refine (ordered_any p s n _ hX HI.out HF.out.few).mono ?_
  rintro e W2 ⟨AL, cL, rfl, hL, hb2, _⟩
  replace hX := hX.below hb2
  replace hn := hn.below hb2 hn.lt
  replace hB := hB.trans (hb2.mono hB.size)
  clear y0 y1 y2 y3 y4 hb2
  obtain ⟨ls, hls⟩ := nm_ (ordF s n)
  have HLS := hide hls
  have hll : ls.length ≤ 1000000 := by rw [← hls]; unfold ordF; rw [sortK_len]; exact Nat.le_trans (lots_len s n) HF.out.few.lo
  rw [hls] at hL ⊢
  clear hls
  obtain ⟨w2, rfl⟩ := is_ W2
  have HX := hide hX
  have HNB := hide hn
  have HB := hide hB
  have HN := hide (needB_ok HV.out).1
  have HD := hide (needB_ok HV.out).2
  have HR : Hid (Room s n.count.toNat) := HF.out.less (by have := HN.out.c; omega)
  clear hX hn hB
  have hw0 : w.heap.size ≤ w2.heap.size := HB.out.size
  have HW0 := hide hw0
  clear hw0
  go_upto_region 5 with fail
  go_loopw [8, 25] (fun v z wr => ∃ (i : Nat), z = .int .i64 i ∧ i ≤ ls.length ∧ Own wr w2.heap.size 3 1 intEnc v (lotsF s n day (ls.take i)) ∧ Below w2.heap.size w2 wr) (fun _ z _ => ls.length - (intOf z).toNat)
  case atStart => exact ⟨0, rfl, Nat.zero_le _, Own.nil_, Below.refl _ _⟩
  case round =>
   obtain ⟨W, rfl⟩ := is_ wr
   obtain ⟨i, rfl, hi, hO, hB⟩ := hrel
   have hBs := hB.size
   by_cases hlt : i < ls.length
   ·obtain ⟨lot, bK, oK, hk, hA, hbK, d0⟩ := ints_at' (hL.below hB) hlt
    have hii : (i : Int) < (ls.length : Int) := by omega
    have ei := wsuc i (by omega)
    have HXW := hide (HX.out.below hB)
    have HNW := hide (HNB.out.below hB HNB.out.lt)
    have HT0 := hide (lotsF_take (s := s) (n := n) (day := day) hk)
    have hll2 : (lotsF s n day (ls.take i)).length ≤ 1000000 := Nat.le_trans (List.length_filter_le _ _) (by rw [List.length_take]; omega)
    obtain ⟨b, hcb⟩ := nm_ ((cutAllF n lot day n.count.toNat s).isSome)
    have HCB := hide hcb
    subst hA
    clear hk hcb
    go_upto_region 7 with fail
    clear d0
    refine wp_region_callcx (argsi := #[.pointer (some ⟨p.g, 0, none⟩)]) 1 5 [0, 2, 3, 4] (CopyOf s W.heap.size) IsPtr (fun u => #[u, .agg #[.int .i64 n.grade, .int .i64 n.colour, .int .i64 n.width, .int .i64 n.length, .int .i64 n.count], lot, day]) (fun u z _ => (∃ A n c, u = .slice A n c) ∧ z = .bool b) (.tmp 35) (.tmp 29) (.tmp 29) (.tmp 36) (by kernel_rfl) (by kernel_rfl) (by kernel_rfl) (by kernel_rfl) (by decide) (fun _ _ _ _ _ h => h) (fun u w w' hb ⟨p2, h1, h2, h3⟩ => ⟨p2, h1, h2.below hb, h3⟩) (fun u w ⟨p2, h1, _⟩ => ⟨_, h1⟩) ⟨.pointer (some ⟨0, 0, none⟩), 0, rfl⟩ rfl rfl rfl rfl rfl rfl rfl rfl rfl rfl rfl rfl rfl rfl rfl rfl rfl rfl (fun _ _ => rfl) (fun _ _ => rfl) ?_
    apply Exists.intro
    refine ⟨fun W1 hc => ?_, ?_⟩
    ·have hn1 := HNW.out.below hc HNW.out.lt
     obtain ⟨y0, y1, y2, y3, y4⟩ := hn1.sin5
     clear hn1
     dsimp only [pick, List.filterMap, List.getElem?_cons_succ, List.getElem?_cons_zero]
     repeat (go_big_quiet_step (fail))
     exact wpQuiet_nil rfl
    refine ⟨by simp [Act.eval], rfl, fun w1 hb1 => ?_, fun ui ⟨g0, hu0⟩ => ?_⟩
    ·refine (copy_any p s w1 (HXW.out.below hb1)).mono ?_
     rintro e w3 ⟨p2, rfl, hX2, hnew, hb3⟩
     exact ⟨_, rfl, ⟨p2, rfl, hX2, fun k hk => Nat.le_trans hb1.size (hnew k hk)⟩, hb3⟩
    subst hu0
    refine ⟨by simp [Act.eval, Act.put], rfl, fun w1 hb1 ⟨p2, hu0, hX2, hnew⟩ => ?_, fun u0 => ⟨rfl, rfl, fun u1 => ⟨rfl, rfl, fun u2 => ⟨rfl, rfl, fun u3 => ⟨rfl, rfl⟩⟩⟩⟩, fun u z w8 hb8 ⟨⟨A8, n8, c8, hu⟩, hz⟩ => ?_⟩
    ·rw [hu0]
     refine (cutAll_ends p2 s n lot day w1 hX2 HI.out HR.out HN.out HD.out HCB.out).mono ?_
     rintro e w3 ⟨⟨u, rfl, A8, n8, c8, rfl⟩, hC3⟩
     exact ⟨_, _, rfl, ⟨⟨A8, n8, c8, rfl⟩, rfl⟩, hb1.trans (hC3.to_below hb1.size fun k hk hp => by have := hnew k hp; omega)⟩
    subst hu hz
    have hO2 := hO.below hb8
    have hB4 := hB.trans (hb8.mono hBs)
    have hsz8 : w2.heap.size ≤ w8.heap.size := Nat.le_trans hBs hb8.size
    clear hO hB hBs hb8 HXW HNW
    obtain ⟨W, rfl⟩ := is_ w8
    dsimp only [Act.put]
    simp only [List.setIfInBounds_toArray, List.set_cons_succ, List.set_cons_zero, List.drop_succ_cons, List.drop_zero]
    cases b with
    | true =>
     have HT : Hid (lotsF s n day (ls.take (i + 1)) = lotsF s n day (ls.take i) ++ [lot]) := by show _ = _; rw [HT0.out, HCB.out]; rfl
     clear HT0 HCB
     go_wp2_with (at_builtin; refine wpList_app_own (base := w2.heap.size) (f := intEnc) (ys := [lot]) _ _ rfl rfl et_ints (hO2.alloc _) rfl rfl ((Blk.new W 3 #[lot]).slc1 rfl) rfl (fun _ => rfl) intEnc_one (by simp <;> omega) (by simp <;> omega) ?_; intro v6 W6 hO6 hb6 hg6)
     have hal := (Below.refl W.heap.size W).alloc (Nat.le_refl _) (.cells #[lot] 3)
     replace hB4 := (hB4.trans (hal.mono hB4.size)).trans hb6
     clear hal hb6 hg6
     clear hO2
     go_roundw
     case rel => exact ⟨i + 1, by go_num, by omega, by rw [HT.out]; exact hO6, hB4⟩
     case measure => simp [intOf]; omega
    | false =>
     have HT : Hid (lotsF s n day (ls.take (i + 1)) = lotsF s n day (ls.take i)) := by show _ = _; rw [HT0.out, HCB.out]; simp
     clear HT0 HCB
     go_wp2_with fail
     have hO3 := hO2
     clear hO2
     go_roundw
     case rel => exact ⟨i + 1, by go_num, by omega, by rw [HT.out]; exact hO3, hB4⟩
     case measure => simp [intOf]; omega
   ·obtain rfl : i = ls.length := by omega
    rw [List.take_length] at hO
    have HE : Hid (lotsL s n day = lotsF s n day ls ∧ lotsE n day = 0) := by
     show _ ∧ _
     unfold lotsL lotsE; rw [HV.out, HLS.out]; exact ⟨rfl, rfl⟩
    obtain ⟨A, c, rfl, hsl⟩ := hO.form (fun _ => rfl)
    have HOF := hide (hO.from_ HW0.out)
    have hB9 := HB.out.trans (hB.mono HW0.out)
    clear hO
    go_wp2_with fail
    go_ret2
    exact ⟨A, c, by rw [HE.out.1, HE.out.2]; rfl, by rw [HE.out.1]; exact hsl, hB9, HOF.out⟩
end Go.Proofs.YtehlbomkldnalaaGreat

/- What a Take hands out: plain. -/
namespace Go.Proofs.YtehlbomkldnalaaGreat
structure PieceAs (n : Need) (lot : Int) (p : Piece) : Prop where
 lot : p.lot = lot
 g : p.grade = n.grade
 c : p.colour = n.colour
 w : p.width = n.width
 l : p.length = n.length
 u : p.use = 0
theorem one_piece {s s' : SS} (h : Inv s) {n : Need} (hn : NeedOk n) {lot day : Int} {p : Piece} {kn : Kin} (hk : look s.lots lot = some kn) (hg : kn.grade = n.grade) (hc : kn.colour = n.colour) (hcut : cutOneF s n lot day = some (s', p)) : PieceAs n lot p ∧ s.last < p.id ∧ p.id = s'.last := by
 unfold cutOneF at hcut
 have hch := chosen_is (n := n) (lot := lot) (day := day) h.keyed
 cases hb : chosen s n lot day with
 | none => rw [hb] at hcut; cases hcut
 | some b =>
  rw [hb] at hcut hch
  injection hcut with hcut
  injection hcut with h1 h2
  obtain ⟨c1, c2, _⟩ := hch
  unfold candF at c2
  simp only [Bool.and_eq_true, decide_eq_true_eq] at c2
  obtain ⟨p0, hp0⟩ := Option.isSome_iff_exists.1 c2.2
  rw [hp0] at h1 h2
  have hbd := clear_bd hp0
  have hlb := look_mem h.ki c1
  have hl : b.lot = lot := c2.1.1.1
  have hkb := (h.it _ _ hlb).2.k
  rw [hl, hk] at hkb
  injection hkb with hkb
  have hcv := cut_inv h hn hlb hl c2.1.1.2 (p := p0) ⟨hbd.2.1, hbd.2.2.1⟩
  have hla := hcv.2.2.la
  refine ⟨?_, ?_, ?_⟩
  ·rw [← h2]
   refine ⟨rfl, ?_, ?_, rfl, rfl, rfl⟩
   ·show b.grade = n.grade; rw [← hg, hkb]
   ·show b.colour = n.colour; rw [← hc, hkb]
  ·rw [← h2]
   show s.last < (cutC s n b p0).last + 1
   omega
  ·rw [← h2, ← h1]; rfl
theorem all_pieces {n : Need} (hn : NeedOk n) {lot day : Int} {kn : Kin} (hg : kn.grade = n.grade) (hc : kn.colour = n.colour) : ∀ {k : Nat} {s s' : SS} {l : List Piece}, Inv s → look s.lots lot = some kn → cutAllF n lot day k s = some (s', l) →
  l.length = k ∧ (∀ p ∈ l, PieceAs n lot p ∧ p.id ≤ s'.last) ∧ ∀ (i : Nat) a b, l[i]? = some a → l[i + 1]? = some b → a.id < b.id
 | 0, s, s', l, h, hk, hcut => by
  injection hcut with hcut
  injection hcut with h1 h2
  subst h2
  exact ⟨rfl, (fun p hp => by cases hp), fun i a b ha => by simp at ha⟩
 | k + 1, s, s', l, h, hk, hcut => by
  unfold cutAllF at hcut
  cases h1 : cutAllF n lot day k s with
  | none => rw [h1] at hcut; cases hcut
  | some q =>
   obtain ⟨s1, l1⟩ := q
   rw [h1] at hcut
   dsimp only at hcut
   obtain ⟨i1, e1⟩ := cutAll_inv hn h h1
   obtain ⟨a1, a2, a3⟩ := all_pieces hn hg hc h hk h1
   cases h2 : cutOneF s1 n lot day with
   | none => rw [h2] at hcut; cases hcut
   | some q2 =>
    obtain ⟨s2, p2⟩ := q2
    rw [h2] at hcut
    injection hcut with hcut
    injection hcut with h3 h4
    obtain ⟨b1, b2, b3⟩ := one_piece i1 hn (e1.lo _ _ hk) hg hc h2
    subst h3 h4
    refine ⟨by rw [List.length_append, a1]; rfl, fun p hp => ?_, fun i a b ha hb => ?_⟩
    ·rcases List.mem_append.1 hp with hp | hp
     ·have := a2 p hp
      exact ⟨this.1, by omega⟩
     ·rw [List.mem_singleton.1 hp]; exact ⟨b1, by omega⟩
    ·rcases Nat.lt_or_ge (i + 1) l1.length with h5 | h5
     ·rw [List.getElem?_append_left (by omega)] at ha
      rw [List.getElem?_append_left h5] at hb
      exact a3 i a b ha hb
     ·have hi := (List.getElem?_eq_some_iff.1 hb).1
      rw [List.length_append] at hi
      have hi' : i + 1 = l1.length := by simp at hi; omega
      rw [List.getElem?_append_right h5, hi', Nat.sub_self] at hb
      injection hb with hb
      rw [List.getElem?_append_left (by omega)] at ha
      have := (a2 a (List.mem_of_getElem? ha)).2
      rw [← hb]; omega
theorem lot_ok {s : SS} {n : Need} {lot : Int} (h : lot ∈ ordF s n) : ∃ kn, look s.lots lot = some kn ∧ kn.grade = n.grade ∧ kn.colour = n.colour := by
 have h1 := (sortK_perm (madeF s) (lotsOfF s n)).subset h
 unfold lotsOfF at h1
 have h2 := (List.mem_filter.1 h1).2
 unfold lotOk at h2
 cases e : look s.lots lot with
 | none => rw [e] at h2; cases h2
 | some kn =>
  rw [e] at h2
  simp only [Bool.and_eq_true, decide_eq_true_eq] at h2
  exact ⟨kn, rfl, h2.1, h2.2⟩
theorem from_none {s : SS} {n : Need} {day : Int} : ∀ {ls : List Int}, lotsF s n day ls = [] → takeFrom s n day ls = none
 | [], _ => rfl
 | lot :: r, h => by
  unfold lotsF at h
  rw [List.filter_cons] at h
  cases hc : cutAllF n lot day n.count.toNat s with
  | some q => rw [hc] at h; rw [if_pos (by rfl)] at h; cases h
  | none =>
   rw [hc, if_neg (by simp)] at h
   show (match cutAllF n lot day n.count.toNat s with | some q => some q | none => takeFrom s n day r) = none
   rw [hc]
   exact from_none (ls := r) h
theorem from_some {s : SS} {n : Need} {day : Int} {a : Int} {t : List Int} : ∀ {ls : List Int}, lotsF s n day ls = a :: t → a ∈ ls ∧ ∃ q, takeFrom s n day ls = some q ∧ cutAllF n a day n.count.toNat s = some q
 | [], h => by cases h
 | lot :: r, h => by
  unfold lotsF at h
  rw [List.filter_cons] at h
  cases hc : cutAllF n lot day n.count.toNat s with
  | some q =>
   rw [hc, if_pos (by rfl)] at h
   injection h with h1 h2
   subst h1
   refine ⟨List.mem_cons_self .., q, ?_, hc⟩
   show (match cutAllF n lot day n.count.toNat s with | some q => some q | none => takeFrom s n day r) = _
   rw [hc]
  | none =>
   rw [hc, if_neg (by simp)] at h
   obtain ⟨h1, q, h2, h3⟩ := from_some (ls := r) h
   refine ⟨List.mem_cons_of_mem _ h1, q, ?_, h3⟩
   show (match cutAllF n lot day n.count.toNat s with | some q => some q | none => takeFrom s n day r) = _
   rw [hc]
   exact h2
/-- what a Take hands out, where it is valid and Lots names a lot -/
theorem take_one {s : SS} (h : Inv s) {n : Need} {day a : Int} {t : List Int} (hv : needB n day = true) (hl : lotsL s n day = a :: t) :
  takeE s n day = 0 ∧ ((takeL s n day).length : Int) = n.count ∧ (∀ p ∈ takeL s n day, PieceAs n a p) ∧ ∀ (i : Nat) x y, (takeL s n day)[i]? = some x → (takeL s n day)[i + 1]? = some y → x.id < y.id := by
 have hn := (needB_ok hv).1
 unfold lotsL at hl
 rw [hv] at hl
 obtain ⟨h1, q, h2, h3⟩ := from_some hl
 obtain ⟨s', l⟩ := q
 obtain ⟨kn, k1, k2, k3⟩ := lot_ok h1
 obtain ⟨a1, a2, a3⟩ := all_pieces hn k2 k3 h k1 h3
 have hF : takeF s n day = some (s', l) := h2
 unfold takeE takeL
 rw [hv, hF]
 refine ⟨rfl, ?_, fun p hp => (a2 p hp).1, a3⟩
 show (l.length : Int) = n.count
 rw [a1]
 have := hn.c
 omega
theorem take_short {s : SS} {n : Need} {day : Int} (hv : needB n day = true) (hl : lotsL s n day = []) : takeE s n day = 24 ∧ takeL s n day = [] := by
 unfold lotsL at hl
 rw [hv] at hl
 have hF : takeF s n day = none := from_none hl
 unfold takeE takeL
 rw [hv, hF]; exact ⟨rfl, rfl⟩
theorem take_bad {s : SS} {n : Need} {day : Int} (hv : needB n day = false) : takeE s n day = 2 ∧ takeL s n day = [] ∧ lotsL s n day = [] ∧ lotsE n day = 2 := by
 unfold takeE takeL lotsL lotsE; rw [hv]; exact ⟨rfl, rfl, rfl, rfl⟩
end Go.Proofs.YtehlbomkldnalaaGreat
