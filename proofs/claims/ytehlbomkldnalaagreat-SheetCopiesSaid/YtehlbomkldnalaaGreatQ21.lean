/- Parts of the proofs of this seat: CutOne, CutAll. Each part says what it proves; no condition beyond those stated there. -/
import Derived.WalkMore
import Derived.Test.YtehlbomkldnalaaGreatQ10
import Derived.Test.YtehlbomkldnalaaGreatQ12
import Derived.Test.YtehlbomkldnalaaGreatQ13
import Derived.Test.YtehlbomkldnalaaGreatQ14

/- cutOne: the walk. -/
namespace Go.Proofs.YtehlbomkldnalaaGreat
open Go Go.RowKit
abbrev zPiece : Array Value := ↑zpA
def CutPost (p : Fp) (s : SS) (n : Need) (lot day : Int) (w : World) (e : Ending) (w' : World) : Prop := match cutOneF s n lot day with
 | none => e = .returned (.tuple #[.agg zPiece, .bool false]) ∧ StA w' p s ∧ Chg p.has w w'
 | some (s', q) => e = .returned (.tuple #[q.val, .bool true]) ∧ StA w' p s' ∧ Chg p.has w w'
theorem clear_no (l n : Int) (A : Option Addr) (c : Nat) (fs : List Pt) (w : World) (hl : l ≤ 9223372036854775807) (hlen : fs.length ≤ 100000) (hS : Slc Pt.enc 2 w w.heap.size A fs) (h : clear l fs n = none) :
  Calls Tryz.prog 12 #[l, .slice A fs.length c, n] w fun e w' => e = .returned (.tuple #[.int .i64 0, .bool false]) ∧ Below w.heap.size w w' :=
 (clear_any l n A c fs w hl hlen hS).mono fun e w' ⟨he, hb⟩ => ⟨by rw [he]; unfold clearVal; rw [h]; rfl, hb⟩
theorem clear_yes (l n : Int) (A : Option Addr) (c : Nat) (fs : List Pt) (w : World) (hl : l ≤ 9223372036854775807) (hlen : fs.length ≤ 100000) (hS : Slc Pt.enc 2 w w.heap.size A fs) {q : Int} (h : clear l fs n = some q) :
  Calls Tryz.prog 12 #[l, .slice A fs.length c, n] w fun e w' => e = .returned (.tuple #[q, .bool true]) ∧ Below w.heap.size w w' :=
 (clear_any l n A c fs w hl hlen hS).mono fun e w' ⟨he, hb⟩ => ⟨by rw [he]; unfold clearVal; rw [h]; rfl, hb⟩
theorem ItV.slc {w : World} {x : Sheet} {A : Option Addr} {c : Nat} (h : ItV w x (x.valAt A c)) : Slc Pt.enc 2 w w.heap.size A x.faults := by
 obtain ⟨A', c', h1, h2, h3⟩ := h
 unfold Sheet.valAt at h1
 injection h1 with h4
 have h5 := congrArg (fun (a : Array Value) => a[8]?) h4
 simp at h5
 obtain ⟨rfl, rfl⟩ := h5
 exact h2
theorem IterOf.noSpan {w : World} {it r : Nat} {M L : List (Int × Value)} (h : IterOf w it r M L) : NoSpan w it := fun cs fr he => by
 obtain ⟨es, clock, seen, last, _, _, _, _, h5, _⟩ := h
 rw [h5] at he; cases he
theorem run_piece (i r l g c wi le : Int) (w : World) : (Instr.build 96 #[(0, .int .i64 i), (1, .int .i64 r), (2, .int .i64 l), (3, .int .i64 g), (4, .int .i64 c), (5, .int .i64 wi), (6, .int .i64 le)]).run Tryz.prog w = .ok (.agg #[i, r, l, g, c, wi, le, .int .i64 0]) w := run_build w _ _ _ (by kernel_rfl)
set_option maxRecDepth 100000 in
set_option maxHeartbeats 8000000 in
theorem cutOne_any (p : Fp) (s : SS) (n : Need) (lot day : Int) (w : World) (hX : StA w p s) (hI : Inv s) (hF : Few s) (hn : NeedOk n) (hd : 0 ≤ day ∧ day ≤ 100000) :
  Calls Tryz.prog 77 #[.pointer (some ⟨p.g, 0, none⟩), .agg ↑n, lot, day] w (CutPost p s n lot day w) := by
 have HI := hide hI
 have HF := hide hF
 have HN := hide hn
 clear hn
 have HD := hide hd
 have HX := hide hX
 have hn := ((Blk.new w 45 ↑n).alloc (.cells zPiece 96)).alloc zeroSheet
 have ht := (Blk.new (w.alloc (.cells ↑n 45)) 96 zPiece).alloc zeroSheet
 have hbb := Blk.new ((w.alloc (.cells ↑n 45)).alloc (.cells zPiece 96)) 93 ↑zsA
 have hB := (((Below.refl w.heap.size w).alloc (Nat.le_refl _) (.cells ↑n 45)).alloc (by simp) (.cells zPiece 96)).alloc (by simp; omega) zeroSheet
 rw [show (w.alloc (.cells ↑n 45)).heap.size = w.heap.size + 1 by simp] at ht
 rw [show ((w.alloc (.cells ↑n 45)).alloc (.cells zPiece 96)).heap.size = w.heap.size + 1 + 1 by simp] at hbb
 clear hI hF hd hX
 go_enter Tryz.func77, Tryz.ntmps77
 go_upto_region 2 with fail
 generalize ((w.alloc (.cells ↑n 45)).alloc (.cells zPiece 96)).alloc zeroSheet = W at *
 obtain ⟨b0, hb0⟩ := nm_ w.heap.size
 have HB0 := hide hb0
 obtain ⟨MI, hMI, hZ⟩ := HX.out.items
 have HZ := hide hZ
 have HMI := hide hMI
 have HAT : Hid (∀ W, Below b0 w W → StA W p s ∧ MapOf W p.ri MI ∧ Zip (ItV W) s.items MI) := by
  show ∀ W, Below b0 w W → _
  intro W hb
  rw [← hb0] at hb
  exact ⟨HX.out.below hb, HMI.out.below hb HMI.out.lt, HZ.out.imp fun x v hv => hv.below hb⟩
 have HRI : Hid (p.ri < b0 ∧ p.g < b0) := by show _ ∧ _; rw [← hb0]; exact ⟨HMI.out.lt, HX.out.lt (by simp [Fp.has])⟩
 rw [hb0] at hn ht hbb hB ⊢
 clear hb0 hZ hMI
 have c6 := (HAT.out W hB).1.blk.cell_ 6 (v := .map (some p.ri)) rfl
 have hMW := (HAT.out W hB).2.1
 have hV0 := ItV.zero W
 go_wp2_with (at_range; refine wpList_range_im rfl _ _ rfl _ _ Tryz.underlying62 p.ri rfl hMW ?_; intro it W0 hit hbl hle)
 go_frame
 have hsz := hB.size
 rw [HB0.out] at hsz
 replace hn := hn.below hbl hn.lt
 replace ht := ht.below hbl ht.lt
 have hitb := hbb.lt
 replace hbb := hbb.below hbl hbb.lt
 replace hV0 := hV0.below hbl
 replace hB := hB.trans (hbl.mono hsz)
 have HIT : Hid (b0 + 2 < it) := by show _ < _; omega
 clear c6 hMW hbl hle hsz hitb
 go_loopw [27] (fun _ wr => ∃ (o : Option Sheet) (bs : Sheet) (A : Option Addr) (c : Nat) (L : List (Int × Value)), IterOf wr it p.ri MI L ∧ Hid (bs = o.getD zS ∧ BestOk s n lot day L o) ∧ Hid (∀ q ∈ L, q ∈ MI) ∧ Blk wr b0 45 ↑n ∧ Blk wr (b0 + 1) 96 zPiece ∧
   Blk wr (b0 + 1 + 1) 93 ↑(bs, A, c) ∧ Hid (ItV wr bs (bs.valAt A c)) ∧ Below b0 w wr) (fun _ wr => leftN wr it)
 case atStart => exact ⟨none, zS, none, 0, MI, hit, ⟨rfl, best_start HZ.out⟩, fun q hq => hq, hn, ht, hbb, hV0, hB⟩
 case round =>
  clear hn ht hbb hB hit hV0
  obtain ⟨W, rfl⟩ := is_ wr
  obtain ⟨o, bs, A, c, L, hit, HBK, HLM, hn, ht, hbb, HV, hB⟩ := hrel
  go_wp2_with (at_next; refine wpList_next_im rfl _ rfl it p.ri rfl hit ?_ ?_)
  ·intro hLe
   have hch : Chosen s n lot day o := best_end (by rw [← hLe]; exact HBK.out.2)
   have hce := chosen_eq HI.out.keyed hch
   have HCE := hide hce
   have HCH := hide hch
   clear hLe hce hch hit HLM
   obtain ⟨y0, y1, y2, y3, y4⟩ := hn.all5
   obtain ⟨t0, t1, t2, t3, t4, t5, t6, t7⟩ := ht.all8
   obtain ⟨z0, z1, z2, z3, z4, z5, z6, z7, z8⟩ := hbb.all9
   cases ho : o with
   | none =>
    have hz : bs.id = 0 := by rw [HBK.out.1, ho]; rfl
    have HEN : Hid (cutOneF s n lot day = none) := by show _ = _; unfold cutOneF; rw [HCE.out, ho]
    go_wp2_with (refine wpList_store_blk rfl 96 _ _ rfl zPiece ht rfl rfl (by kernel_rfl) rfl (by simp [Value.oneCell']) ?_; intro W9 ht9 hc9; obtain ⟨q0, q1, q2, q3, q4, q5, q6, q7⟩ := ht9.all8)
    have hB9 := hB.trans (hc9.below1 (B := b0) (by have := hn.lt; omega) (by omega))
    refine bodyPost_ret (v := .tuple #[.agg zPiece, .bool false]) (by simp [results, Tryz.results77, go_sem, q0, q1, q2, q3, q4, q5, q6, q7]) rfl ?_
    unfold CutPost
    rw [HEN.out]
    exact ⟨rfl, (HAT.out _ hB9).1, .of_below (by rw [HB0.out]; exact hB9)⟩
   | some b =>
    have hz : ¬ bs.id = 0 := by
     have h1 := HBK.out.2
     rw [ho] at h1
     have h2 := (HI.out.it _ _ (look_mem HI.out.ki h1.1)).2.id
     rw [HBK.out.1, ho]; show ¬ b.id = 0
     omega
    have hbe : bs = b := by rw [HBK.out.1, ho]; rfl
    rw [ho] at HCE HCH
    clear HBK
    subst hbe
    obtain ⟨hbi, hbc, hbr⟩ := HCH.out
    clear hbr
    have HBL := hide (look_mem HI.out.ki hbi)
    have HBO := hide (HI.out.it _ _ HBL.out).2
    have hcf : candF s.rules n lot day bs = (decide (bs.lot = lot) && decide (n.width ≤ bs.width) && useF s.rules bs day && (clear bs.length bs.faults n.length).isSome) := rfl
    rw [hbc] at hcf
    cases hcl : clear bs.length bs.faults n.length with
    | none => rw [hcl] at hcf; simp at hcf
    | some q =>
     have hcf2 : bs.lot = lot ∧ n.width ≤ bs.width := by
      have := hcf.symm
      simp only [Bool.and_eq_true, decide_eq_true_eq] at this
      exact ⟨this.1.1.1, this.1.1.2⟩
     have HLW := hide hcf2
     have HQ := hide (clear_bd hcl)
     have HES : Hid (cutOneF s n lot day = some (cutD (cutC s n bs q) n lot bs, pieceF (cutC s n bs q) n lot bs)) := by show _ = _; unfold cutOneF; rw [HCE.out]; dsimp only; rw [hcl]; rfl
     clear hbi hbc hcf hcf2 HCE HCH
     go_wp2_with fail
     refine (clear_yes bs.length n.length A c bs.faults _ (by have := HBO.out.l; omega) (by have := HBO.out.n; omega) HV.out.slc hcl).mono ?_
     rintro e W ⟨rfl, hb⟩
     clear y0 y1 y2 y3 y4 t0 t1 t2 t3 t4 t5 t6 t7 z0 z1 z2 z3 z4 z5 z6 z7 z8
     replace hB := Below.trans hB (Below.mono hb (Nat.le_of_lt (Blk.lt hn)))
     replace hn := hn.below hb hn.lt
     replace ht := ht.below hb ht.lt
     replace hbb := hbb.below hb hbb.lt
     replace HV := hide (ItV.below (Hid.out HV) hb)
     clear hb
     obtain ⟨y0, y1, y2, y3, y4⟩ := hn.all5
     obtain ⟨t0, t1, t2, t3, t4, t5, t6, t7⟩ := ht.all8
     obtain ⟨z0, z1, z2, z3, z4, z5, z6, z7, z8⟩ := hbb.all9
     clear hcl
     have e1 := IntWalk.i64_in (q + n.length) (by have := HQ.out; have := HBO.out.l; have := HN.out.l; omega)
     go_upto_region 13 with fail
     clear e1 hz
     have HLT := hide (show b0 + 1 + 1 < _ from hbb.lt)
     go_wp2_with fail
     have z_y0 := Since.hid y0
     have z_y1 := Since.hid y1
     have z_y2 := Since.hid y2
     have z_y3 := Since.hid y3
     have z_y4 := Since.hid y4
     have z_t0 := Since.hid t0
     have z_t1 := Since.hid t1
     have z_t2 := Since.hid t2
     have z_t3 := Since.hid t3
     have z_t4 := Since.hid t4
     have z_t5 := Since.hid t5
     have z_t6 := Since.hid t6
     have z_t7 := Since.hid t7
     have z_z0 := Since.hid z0
     have z_z1 := Since.hid z1
     have z_z2 := Since.hid z2
     have z_z3 := Since.hid z3
     have z_z4 := Since.hid z4
     have z_z5 := Since.hid z5
     have z_z6 := Since.hid z6
     have z_z7 := Since.hid z7
     have z_z8 := Since.hid z8
     have hok : FldOk W ([⟨3, .ptr, (.cells ↑zsA 93), 6, (.cells ↑(bs, A, c) 93)⟩, ⟨4, .ptr, (.cells ↑zsA 93), 7, (.cells ↑(bs, A, c) 93)⟩, ⟨5, .ptr, (.cells ↑zsA 93), 8, (.cells ↑(bs, A, c) 93)⟩]) [] := FldOk.nil_
     refine wp_region_both 9 [0, 1, 2] [3, 4, 5, 6, 7, 8] [⟨3, .ptr, (.cells ↑zsA 93), 6, (.cells ↑(bs, A, c) 93)⟩, ⟨4, .ptr, (.cells ↑zsA 93), 7, (.cells ↑(bs, A, c) 93)⟩, ⟨5, .ptr, (.cells ↑zsA 93), 8, (.cells ↑(bs, A, c) 93)⟩] [] (fun f hf => by cases hf) (by kernel_rfl) (by kernel_rfl) (by kernel_rfl) (by kernel_rfl) (by kernel_rfl) (by simp) ?_
     apply Exists.intro
     refine ⟨fun W1 hc0 => ?_, ?_⟩
     ·have hb := hc0.nil_
      have y_y0 := Since.cell (z_y0.out W1 hb)
      have y_y1 := Since.cell (z_y1.out W1 hb)
      have y_y2 := Since.cell (z_y2.out W1 hb)
      have y_y3 := Since.cell (z_y3.out W1 hb)
      have y_y4 := Since.cell (z_y4.out W1 hb)
      have y_t0 := Since.cell (z_t0.out W1 hb)
      have y_t1 := Since.cell (z_t1.out W1 hb)
      have y_t2 := Since.cell (z_t2.out W1 hb)
      have y_t3 := Since.cell (z_t3.out W1 hb)
      have y_t4 := Since.cell (z_t4.out W1 hb)
      have y_t5 := Since.cell (z_t5.out W1 hb)
      have y_t6 := Since.cell (z_t6.out W1 hb)
      have y_t7 := Since.cell (z_t7.out W1 hb)
      have y_z0 := Since.cell (z_z0.out W1 hb)
      have y_z1 := Since.cell (z_z1.out W1 hb)
      have y_z2 := Since.cell (z_z2.out W1 hb)
      have y_z3 := Since.cell (z_z3.out W1 hb)
      have y_z4 := Since.cell (z_z4.out W1 hb)
      have y_z5 := Since.cell (z_z5.out W1 hb)
      have y_z6 := Since.cell (z_z6.out W1 hb)
      have y_z7 := Since.cell (z_z7.out W1 hb)
      have y_z8 := Since.cell (z_z8.out W1 hb)
      replace hB := Below.trans hB (Below.mono hb (Nat.le_of_lt (Blk.lt hn)))
      replace hn := hn.below hb hn.lt
      replace ht := ht.below hb ht.lt
      replace hbb := hbb.below hb hbb.lt
      replace HV := hide (ItV.below (Hid.out HV) hb)
      dsimp only [pick, List.filterMap, List.getElem?_cons_succ, List.getElem?_cons_zero]
      repeat (go_big_quiet_step ((fail)))
      exact wpQuiet_nil rfl
     ·refine ownWalk_alloc ⟨3, .ptr, (.cells ↑zsA 93), 6, (.cells ↑(bs, A, c) 93)⟩ hok (by kernel_rfl) rfl rfl rfl rfl (fun _ => rfl) (by simp) (by simp) (fun h => absurd h (by simp)) ?_
      intro hfb
      simp only [Shape.val, List.setIfInBounds_toArray, List.set_cons_succ, List.set_cons_zero]
      refine ownWalk_alloc ⟨4, .ptr, (.cells ↑zsA 93), 7, (.cells ↑(bs, A, c) 93)⟩ hok (by kernel_rfl) rfl rfl rfl rfl (fun _ => rfl) (by simp) (by simp) (fun h => absurd h (by simp)) ?_
      intro hsb
      simp only [Shape.val, List.setIfInBounds_toArray, List.set_cons_succ, List.set_cons_zero]
      refine ownWalk_alloc ⟨5, .ptr, (.cells ↑zsA 93), 8, (.cells ↑(bs, A, c) 93)⟩ hok (by kernel_rfl) rfl rfl rfl rfl (fun _ => rfl) (by simp) (by simp) (fun h => absurd h (by simp)) ?_
      intro hrb
      simp only [Shape.val, List.setIfInBounds_toArray, List.set_cons_succ, List.set_cons_zero]
      refine ownWalk_fill (cs := ↑zsA) (cs' := ↑(bs, A, c)) ⟨3, .ptr, (.cells ↑zsA 93), 6, (.cells ↑(bs, A, c) 93)⟩ hok (by kernel_rfl) rfl rfl rfl rfl rfl rfl rfl rfl (by kernel_rfl) rfl (by simp [Value.oneCell']) rfl rfl (by simp) (by simp) (by simp) rfl ?_ (by simp)
      refine ownWalk_fill (cs := ↑zsA) (cs' := ↑(bs, A, c)) ⟨4, .ptr, (.cells ↑zsA 93), 7, (.cells ↑(bs, A, c) 93)⟩ hok (by kernel_rfl) rfl rfl rfl rfl rfl rfl rfl rfl (by kernel_rfl) rfl (by simp [Value.oneCell']) rfl rfl (by simp) (by simp) (by simp) rfl ?_ (by simp)
      refine ownWalk_fill (cs := ↑zsA) (cs' := ↑(bs, A, c)) ⟨5, .ptr, (.cells ↑zsA 93), 8, (.cells ↑(bs, A, c) 93)⟩ hok (by kernel_rfl) rfl rfl rfl rfl rfl rfl rfl rfl (by kernel_rfl) rfl (by simp [Value.oneCell']) rfl rfl (by simp) (by simp) (by simp) rfl ?_ (by simp)
      refine ownWalk_nil ?_
      intro w' hc0 hD
      have hb := hc0.nil_
      obtain ⟨hfge, hf⟩ := hD.box.get (x := ⟨3, .ptr, (.cells ↑zsA 93), 6, (.cells ↑(bs, A, c) 93)⟩) (o := (.cells ↑(bs, A, c) 93)) (by simp) rfl rfl
      replace hf : Blk _ _ _ _ := hf
      obtain ⟨hsge, hs⟩ := hD.box.get (x := ⟨4, .ptr, (.cells ↑zsA 93), 7, (.cells ↑(bs, A, c) 93)⟩) (o := (.cells ↑(bs, A, c) 93)) (by simp) rfl rfl
      replace hs : Blk _ _ _ _ := hs
      obtain ⟨hrge, hr⟩ := hD.box.get (x := ⟨5, .ptr, (.cells ↑zsA 93), 8, (.cells ↑(bs, A, c) 93)⟩) (o := (.cells ↑(bs, A, c) 93)) (by simp) rfl rfl
      replace hr : Blk _ _ _ _ := hr
      have hf_hs := hD.box.apart (x := ⟨3, .ptr, (.cells ↑zsA 93), 6, (.cells ↑(bs, A, c) 93)⟩) (y := ⟨4, .ptr, (.cells ↑zsA 93), 7, (.cells ↑(bs, A, c) 93)⟩) (by simp) (by simp) (by simp) rfl rfl
      have hf_hr := hD.box.apart (x := ⟨3, .ptr, (.cells ↑zsA 93), 6, (.cells ↑(bs, A, c) 93)⟩) (y := ⟨5, .ptr, (.cells ↑zsA 93), 8, (.cells ↑(bs, A, c) 93)⟩) (by simp) (by simp) (by simp) rfl rfl
      have hs_hr := hD.box.apart (x := ⟨4, .ptr, (.cells ↑zsA 93), 7, (.cells ↑(bs, A, c) 93)⟩) (y := ⟨5, .ptr, (.cells ↑zsA 93), 8, (.cells ↑(bs, A, c) 93)⟩) (by simp) (by simp) (by simp) rfl rfl
      clear hD
      try simp only [List.drop_succ_cons, List.drop_zero]
      clear z_y0 z_y1 z_y2 z_y3 z_y4 z_t0 z_t1 z_t2 z_t3 z_t4 z_t5 z_t6 z_t7 z_z0 z_z1 z_z2 z_z3 z_z4 z_z5 z_z6 z_z7 z_z8
      clear y0 y1 y2 y3 y4 t0 t1 t2 t3 t4 t5 t6 t7 z0 z1 z2 z3 z4 z5 z6 z7 z8
      replace hB := Below.trans hB (Below.mono hb (Nat.le_of_lt (Blk.lt hn)))
      replace hn := hn.below hb hn.lt
      replace ht := ht.below hb ht.lt
      replace hbb := hbb.below hb hbb.lt
      replace HV := hide (ItV.below (Hid.out HV) hb)
      clear hb hok hc0
      obtain ⟨W, rfl⟩ := is_ w'
      obtain ⟨y0, y1, y2, y3, y4⟩ := hn.all5
      obtain ⟨t0, t1, t2, t3, t4, t5, t6, t7⟩ := ht.all8
      obtain ⟨z0, z1, z2, z3, z4, z5, z6, z7, z8⟩ := hbb.all9
      obtain ⟨f0, f1, f2, f3, f4, f5, f6, f7, f8⟩ := hf.all9
      obtain ⟨s0, s1, s2, s3, s4, s5, s6, s7, s8⟩ := hs.all9
      obtain ⟨r0, r1, r2, r3, r4, r5, r6, r7, r8⟩ := hr.all9
      go_upto_region 14 with fail
      have HFB : Hid (∀ x ∈ bs.faults, -1000000 ≤ x.a ∧ x.a ≤ 1000000 ∧ -1000000 ≤ x.b ∧ x.b ≤ 1000000) := fun x hx => by
       have h1 := spans_bd HBO.out.f (Int.le_refl 0) x hx
       have h2 := HBO.out.l
       omega
      obtain ⟨fl, hfl⟩ := nm_ (partF bs.faults 0 q)
      have HFL := hide hfl
      have P1 := fun W hS => part_any A c bs.faults 0 q W hS (by have := HBO.out.n; omega) HFB.out (by omega) (by have := HQ.out; have := HBO.out.l; have := HN.out.l; omega)
      rw [hfl] at P1
      have HP1 := hide P1
      clear hfl P1
      go_wp2_with fail
      refine (HP1.out _ HV.out.slc).mono ?_
      rintro e W ⟨Af, cf, rfl, hb, hSf, hOf⟩
      clear y0 y1 y2 y3 y4 t0 t1 t2 t3 t4 t5 t6 t7 z0 z1 z2 z3 z4 z5 z6 z7 z8 f0 f1 f2 f3 f4 f5 f6 f7 f8 s0 s1 s2 s3 s4 s5 s6 s7 s8 r0 r1 r2 r3 r4 r5 r6 r7 r8
      replace hB := Below.trans hB (Below.mono hb (Nat.le_of_lt (Blk.lt hn)))
      replace hn := hn.below hb hn.lt
      replace ht := ht.below hb ht.lt
      replace hbb := hbb.below hb hbb.lt
      replace HV := hide (ItV.below (Hid.out HV) hb)
      replace hf := hf.below hb hf.lt
      replace hs := hs.below hb hs.lt
      replace hr := hr.below hb hr.lt
      clear hb
      obtain ⟨y0, y1, y2, y3, y4⟩ := hn.all5
      obtain ⟨t0, t1, t2, t3, t4, t5, t6, t7⟩ := ht.all8
      obtain ⟨z0, z1, z2, z3, z4, z5, z6, z7, z8⟩ := hbb.all9
      obtain ⟨f0, f1, f2, f3, f4, f5, f6, f7, f8⟩ := hf.all9
      obtain ⟨s0, s1, s2, s3, s4, s5, s6, s7, s8⟩ := hs.all9
      obtain ⟨r0, r1, r2, r3, r4, r5, r6, r7, r8⟩ := hr.all9
      clear HP1
      have HVf : Hid (ItV W { bs with length := q, faults := fl } (Sheet.valAt { bs with length := q, faults := fl } Af cf)) := ItV.made hSf hOf
      clear hSf hOf
      clear y0 y1 y2 y3 y4 t0 t1 t2 t3 t4 t5 t6 t7 z0 z1 z2 z3 z4 z5 z6 z7 z8 f0 f1 f2 f3 f4 f5 f6 f7 f8 s0 s1 s2 s3 s4 s5 s6 s7 s8 r0 r1 r2 r3 r4 r5 r6 r7 r8
      go_upto_region 15 with (first | (refine wpList_store_at rfl 3 _ _ rfl (.int .i64 q) hf rfl rfl (by kernel_rfl) rfl (by simp) rfl ?_; intro W3 hf3 hc3) | (refine wpList_store_at rfl 41 _ _ rfl (.slice Af fl.length cf) hf3 rfl rfl (by kernel_rfl) rfl (by simp) rfl ?_; intro W4 hf4 hc4))
      have hlt := HLT.out
      have hS3 : ∀ k, (fun k => k = hfb) k → NoSpan W k := fun k hk => by have hk : k = hfb := hk; subst hk; exact NoSpan.blk hf (by decide)
      have hS4 : ∀ k, (fun k => k = hfb) k → NoSpan W3 k := fun k hk => by have hk : k = hfb := hk; subst hk; exact NoSpan.blk hf3 (by decide)
      replace HV := hide ((HV.out.chg hc3 hS3).chg hc4 hS4)
      replace HVf := hide ((HVf.out.chg hc3 hS3).chg hc4 hS4)
      replace hn := (hn.chg1 hc3 (by omega)).chg1 hc4 (by omega)
      replace ht := (ht.chg1 hc3 (by omega)).chg1 hc4 (by omega)
      replace hbb := (hbb.chg1 hc3 (by omega)).chg1 hc4 (by omega)
      replace hs := (hs.chg1 hc3 (by omega)).chg1 hc4 (by omega)
      replace hr := (hr.chg1 hc3 (by omega)).chg1 hc4 (by omega)
      have hn0 := hn.lt
      have hb3 : Below b0 W W3 := hc3.below1 (by have := hf.lt; omega) (by omega)
      have hb4 : Below b0 W3 W4 := hc4.below1 (by have := hf3.lt; omega) (by omega)
      replace hB := (hB.trans hb3).trans hb4
      have hff : Blk W4 hfb 93 #[bs.id, bs.root, bs.grade, bs.colour, bs.lot, bs.made, bs.width, q, .slice Af fl.length cf] := hf4
      clear hf hf3 hf4 hS3 hS4 hc3 hc4 hb3 hb4 hn0
      obtain ⟨W, rfl⟩ := is_ W4
      try dsimp only [Act.put]
      have e1 := IntWalk.i64_in (bs.width - n.width) (by have := HBO.out.w; have := HN.out.w; omega)
      obtain ⟨y0, y1, y2, y3, y4⟩ := hn.all5
      obtain ⟨t0, t1, t2, t3, t4, t5, t6, t7⟩ := ht.all8
      obtain ⟨z0, z1, z2, z3, z4, z5, z6, z7, z8⟩ := hbb.all9
      obtain ⟨f0, f1, f2, f3, f4, f5, f6, f7, f8⟩ := hff.all9
      obtain ⟨s0, s1, s2, s3, s4, s5, s6, s7, s8⟩ := hs.all9
      obtain ⟨r0, r1, r2, r3, r4, r5, r6, r7, r8⟩ := hr.all9
      go_wp2_with fail
      have hok : FldOk W ([]) [⟨8, hsb, 93, (↑(bs, A, c)), ((#[.int .i64 bs.id, .int .i64 bs.root, .int .i64 bs.grade, .int .i64 bs.colour, .int .i64 bs.lot, .int .i64 bs.made, .int .i64 bs.width, .int .i64 bs.length, .slice A bs.faults.length c])).setIfInBounds (6) (.int .i64 (bs.width - n.width))⟩] := FldOk.one_ hs.lt (by simp)
      refine wp_region_both 9 [0, 1, 2, 3, 4, 5, 6, 7] [8] [] [⟨8, hsb, 93, (↑(bs, A, c)), ((#[.int .i64 bs.id, .int .i64 bs.root, .int .i64 bs.grade, .int .i64 bs.colour, .int .i64 bs.lot, .int .i64 bs.made, .int .i64 bs.width, .int .i64 bs.length, .slice A bs.faults.length c])).setIfInBounds (6) (.int .i64 (bs.width - n.width))⟩] (fun f hf => by simp only [List.mem_singleton] at hf; subst hf; exact hs) (by kernel_rfl) (by kernel_rfl) (by kernel_rfl) (by kernel_rfl) (by kernel_rfl) (by simp) ?_
      apply Exists.intro
      refine ⟨fun W1 hc0 => ?_, ?_⟩
      ·have hc1 : Chg (fun k => k = hsb) W W1 := hc0.one_
       replace HV := hide (ItV.chg (Hid.out HV) hc1 (fun k hk => by have hk : k = hsb := hk; subst hk; exact NoSpan.blk hs (by decide)))
       replace HVf := hide (ItV.chg (Hid.out HVf) hc1 (fun k hk => by have hk : k = hsb := hk; subst hk; exact NoSpan.blk hs (by decide)))
       replace hB := Below.trans hB (Chg.below1 hc1 (by have := hn.lt; omega) (by omega))
       replace hn := hn.chg1 hc1 (by omega)
       replace ht := ht.chg1 hc1 (by omega)
       replace hbb := hbb.chg1 hc1 (by omega)
       replace hff := hff.chg1 hc1 (by omega)
       replace hr := hr.chg1 hc1 (by omega)
       obtain ⟨y0, y1, y2, y3, y4⟩ := hn.all5
       obtain ⟨t0, t1, t2, t3, t4, t5, t6, t7⟩ := ht.all8
       obtain ⟨z0, z1, z2, z3, z4, z5, z6, z7, z8⟩ := hbb.all9
       obtain ⟨f0, f1, f2, f3, f4, f5, f6, f7, f8⟩ := hff.all9
       obtain ⟨s0, s1, s2, s3, s4, s5, s6, s7, s8⟩ := hs.all9
       obtain ⟨r0, r1, r2, r3, r4, r5, r6, r7, r8⟩ := hr.all9
       obtain ⟨y_y0, y_y1, y_y2, y_y3, y_y4⟩ := Since.c5 y0 y1 y2 y3 y4
       obtain ⟨y_t0, y_t1, y_t2, y_t3, y_t4, y_t5, y_t6, y_t7⟩ := Since.c8 t0 t1 t2 t3 t4 t5 t6 t7
       obtain ⟨y_z0, y_z1, y_z2, y_z3, y_z4, y_z5, y_z6, y_z7, y_z8⟩ := Since.c9 z0 z1 z2 z3 z4 z5 z6 z7 z8
       obtain ⟨y_f0, y_f1, y_f2, y_f3, y_f4, y_f5, y_f6, y_f7, y_f8⟩ := Since.c9 f0 f1 f2 f3 f4 f5 f6 f7 f8
       obtain ⟨y_s0, y_s1, y_s2, y_s3, y_s4, y_s5, y_s6, y_s7, y_s8⟩ := Since.c9 s0 s1 s2 s3 s4 s5 s6 s7 s8
       obtain ⟨y_r0, y_r1, y_r2, y_r3, y_r4, y_r5, y_r6, y_r7, y_r8⟩ := Since.c9 r0 r1 r2 r3 r4 r5 r6 r7 r8
       dsimp only [pick, List.filterMap, List.getElem?_cons_succ, List.getElem?_cons_zero]
       repeat (go_big_quiet_step ((fail)))
       exact wpQuiet_nil rfl
      ·refine ownWalk_put (i := 6) (v := .int .i64 (bs.width - n.width)) ⟨8, hsb, 93, (↑(bs, A, c)), ((#[.int .i64 bs.id, .int .i64 bs.root, .int .i64 bs.grade, .int .i64 bs.colour, .int .i64 bs.lot, .int .i64 bs.made, .int .i64 bs.width, .int .i64 bs.length, .slice A bs.faults.length c])).setIfInBounds (6) (.int .i64 (bs.width - n.width))⟩ hok (by simp) rfl rfl rfl rfl rfl rfl rfl (by kernel_rfl) rfl (by simp) rfl rfl (by simp) ?_
       refine ownWalk_nil ?_
       intro w' hc0 hD
       have hc1 : Chg (fun k => k = hsb) W w' := hc0.one_
       have n_hs := hD.get (f := ⟨8, hsb, 93, (↑(bs, A, c)), ((#[.int .i64 bs.id, .int .i64 bs.root, .int .i64 bs.grade, .int .i64 bs.colour, .int .i64 bs.lot, .int .i64 bs.made, .int .i64 bs.width, .int .i64 bs.length, .slice A bs.faults.length c])).setIfInBounds (6) (.int .i64 (bs.width - n.width))⟩) (by simp) rfl
       clear hD
       try simp only [List.drop_succ_cons, List.drop_zero]
       clear y0 y1 y2 y3 y4 t0 t1 t2 t3 t4 t5 t6 t7 z0 z1 z2 z3 z4 z5 z6 z7 z8 f0 f1 f2 f3 f4 f5 f6 f7 f8 s0 s1 s2 s3 s4 s5 s6 s7 s8 r0 r1 r2 r3 r4 r5 r6 r7 r8
       replace HV := hide (ItV.chg (Hid.out HV) hc1 (fun k hk => by have hk : k = hsb := hk; subst hk; exact NoSpan.blk hs (by decide)))
       replace HVf := hide (ItV.chg (Hid.out HVf) hc1 (fun k hk => by have hk : k = hsb := hk; subst hk; exact NoSpan.blk hs (by decide)))
       replace hB := Below.trans hB (Chg.below1 hc1 (by have := hn.lt; omega) (by omega))
       replace hn := hn.chg1 hc1 (by omega)
       replace ht := ht.chg1 hc1 (by omega)
       replace hbb := hbb.chg1 hc1 (by omega)
       replace hff := hff.chg1 hc1 (by omega)
       replace hr := hr.chg1 hc1 (by omega)
       clear hs
       have hs := n_hs
       clear n_hs hc1 hc0 hok
       dsimp only at hs
       obtain ⟨W, rfl⟩ := is_ w'
       obtain ⟨y0, y1, y2, y3, y4⟩ := hn.all5
       obtain ⟨t0, t1, t2, t3, t4, t5, t6, t7⟩ := ht.all8
       obtain ⟨z0, z1, z2, z3, z4, z5, z6, z7, z8⟩ := hbb.all9
       obtain ⟨f0, f1, f2, f3, f4, f5, f6, f7, f8⟩ := hff.all9
       obtain ⟨s0, s1, s2, s3, s4, s5, s6, s7, s8⟩ := hs.all9
       obtain ⟨r0, r1, r2, r3, r4, r5, r6, r7, r8⟩ := hr.all9
       clear e1
       have hs1 : Blk W hsb 93 #[bs.id, bs.root, bs.grade, bs.colour, bs.lot, bs.made, .int .i64 (bs.width - n.width), bs.length, .slice A bs.faults.length c] := hs
       clear hs
       go_upto_region 16 with (first | (refine wpList_store_at rfl 3 _ _ rfl (.int .i64 n.length) hs1 rfl rfl (by kernel_rfl) rfl (by simp) rfl ?_; intro W3 hs3 hc3) | (refine wpList_store_at rfl 41 _ _ rfl (.slice none 0 0) hs3 rfl rfl (by kernel_rfl) rfl (by simp) rfl ?_; intro W4 hs4 hc4))
       have hS3 : ∀ k, (fun k => k = hsb) k → NoSpan W k := fun k hk => by have hk : k = hsb := hk; subst hk; exact NoSpan.blk hs1 (by decide)
       have hS4 : ∀ k, (fun k => k = hsb) k → NoSpan W3 k := fun k hk => by have hk : k = hsb := hk; subst hk; exact NoSpan.blk hs3 (by decide)
       replace HV := hide ((HV.out.chg hc3 hS3).chg hc4 hS4)
       replace HVf := hide ((HVf.out.chg hc3 hS3).chg hc4 hS4)
       replace hn := (hn.chg1 hc3 (by omega)).chg1 hc4 (by omega)
       replace ht := (ht.chg1 hc3 (by omega)).chg1 hc4 (by omega)
       replace hbb := (hbb.chg1 hc3 (by omega)).chg1 hc4 (by omega)
       replace hff := (hff.chg1 hc3 (by omega)).chg1 hc4 (by omega)
       replace hr := (hr.chg1 hc3 (by omega)).chg1 hc4 (by omega)
       have hn0 := hn.lt
       have hb3 : Below b0 W W3 := hc3.below1 (by have := hs1.lt; omega) (by omega)
       have hb4 : Below b0 W3 W4 := hc4.below1 (by have := hs3.lt; omega) (by omega)
       replace hB := (hB.trans hb3).trans hb4
       have hss : Blk W4 hsb 93 #[bs.id, bs.root, bs.grade, bs.colour, bs.lot, bs.made, .int .i64 (bs.width - n.width), n.length, .slice none 0 0] := hs4
       have HVs : Hid (ItV W4 { bs with width := bs.width - n.width, length := n.length, faults := [] } (Sheet.valAt { bs with width := bs.width - n.width, length := n.length, faults := [] } none 0)) := ⟨none, 0, rfl, fun i y hy => by simp at hy, fun h => absurd rfl h⟩
       clear hs1 hs3 hs4 hS3 hS4 hc3 hc4 hb3 hb4 hn0
       obtain ⟨W, rfl⟩ := is_ W4
       try dsimp only [Act.put]
       go_upto_region 16 with fail
       have e2 := IntWalk.i64_in (bs.length - (q + n.length)) (by have := HQ.out; have := HBO.out.l; have := HN.out.l; omega)
       obtain ⟨rl, hrl⟩ := nm_ (partF bs.faults (q + n.length) bs.length)
       have HRL := hide hrl
       have P2 := fun W hS => part_any A c bs.faults (q + n.length) bs.length W hS (by have := HBO.out.n; omega) HFB.out (by have := HQ.out; have := HBO.out.l; have := HN.out.l; omega) (by have := HBO.out.l; omega)
       rw [hrl] at P2
       have HP2 := hide P2
       have HBB := hide hbb
       clear hrl P2 hbb
       refine wp_region_call1 (args := #[.slice A bs.faults.length c, .int .i64 (q + n.length), bs.length]) 11 9 [0, 1, 2, 3, 4, 5, 6, 7, 8, 10] (fun u w' => ∃ A' c', u = .slice A' rl.length c' ∧ ItV w' { bs with length := bs.length - (q + n.length), faults := rl } (Sheet.valAt { bs with length := bs.length - (q + n.length), faults := rl } A' c')) (by kernel_rfl) (by kernel_rfl) (by kernel_rfl) (by kernel_rfl) (fun u w w' hb ⟨A', c', h1, h2⟩ => ⟨A', c', h1, h2.below hb⟩) rfl rfl rfl (fun _ _ => rfl) ?_
       apply Exists.intro
       refine ⟨fun W1 hc => ?_, ?_⟩
       ·have hb1 := HBB.out.below hc HBB.out.lt
        have z7 := Since.cell (hb1.cell_ 7 (v := bs.length) rfl)
        have z8 := Since.cell (hb1.cell_ 8 (v := .slice A bs.faults.length c) rfl)
        clear hb1
        dsimp only [pick, List.filterMap, List.getElem?_cons_succ, List.getElem?_cons_zero]
        repeat (go_big_quiet_step (fail))
        exact wpQuiet_nil rfl
       refine ⟨by simp [Act.eval], rfl, fun w1 hb1 => ?_, fun u w8 hb8 hR => ?_⟩
       ·refine (HP2.out w1 (Slc.on HV.out.slc hb1)).mono ?_
        rintro e w2 ⟨A', c', rfl, hb2, hS2, hO2⟩
        exact ⟨_, rfl, ⟨A', c', rfl, ItV.made hS2 hO2⟩, hb2⟩
       obtain ⟨Ar, cr, rfl, hVr⟩ := hR
       have hn8 := hn.below hb8 hn.lt
       have ht8 := ht.below hb8 ht.lt
       have hbb8 := HBB.out.below hb8 HBB.out.lt
       have hff8 := hff.below hb8 hff.lt
       have hss8 := hss.below hb8 hss.lt
       have hr8 := hr.below hb8 hr.lt
       have HV8 := hide (HV.out.below hb8)
       have HVf8 := hide (HVf.out.below hb8)
       have HVr := hide hVr
       have hn0 := hn.lt
       have hB8 := hB.trans (hb8.mono (by omega))
       clear hn ht HBB hff hss hr HV HVf hVr hB hb8 HP2 e2 hn0
       obtain ⟨W, rfl⟩ := is_ w8
       dsimp only [Act.put]
       simp only [List.setIfInBounds_toArray, List.set_cons_succ, List.set_cons_zero, List.drop_succ_cons, List.drop_zero]
       refine wpList_store_at rfl 3 _ _ rfl (.int .i64 (bs.length - (q + n.length))) hr8 rfl rfl (by kernel_rfl) rfl (by simp) rfl ?_
       intro W3 hr3 hc3
       go_upto_region 17 with (refine wpList_store_at rfl 41 _ _ rfl (.slice Ar rl.length cr) hr3 rfl rfl (by kernel_rfl) rfl (by simp) rfl ?_; intro W4 hr4 hc4)
       have hS3 : ∀ k, (fun k => k = hrb) k → NoSpan W k := fun k hk => by have hk : k = hrb := hk; subst hk; exact NoSpan.blk hr8 (by decide)
       have hS4 : ∀ k, (fun k => k = hrb) k → NoSpan W3 k := fun k hk => by have hk : k = hrb := hk; subst hk; exact NoSpan.blk hr3 (by decide)
       have HV9 := hide ((HV8.out.chg hc3 hS3).chg hc4 hS4)
       have HVf9 := hide ((HVf8.out.chg hc3 hS3).chg hc4 hS4)
       have HVr9 := hide ((HVr.out.chg hc3 hS3).chg hc4 hS4)
       have hn9 := (hn8.chg1 hc3 (by omega)).chg1 hc4 (by omega)
       have ht9 := (ht8.chg1 hc3 (by omega)).chg1 hc4 (by omega)
       have hbb9 := (hbb8.chg1 hc3 (by omega)).chg1 hc4 (by omega)
       have hff9 := (hff8.chg1 hc3 (by omega)).chg1 hc4 (by omega)
       have hss9 := (hss8.chg1 hc3 (by omega)).chg1 hc4 (by omega)
       have hn0 := hn9.lt
       have hb3 : Below b0 W W3 := hc3.below1 (by have := hr8.lt; omega) (by omega)
       have hb4 : Below b0 W3 W4 := hc4.below1 (by have := hr3.lt; omega) (by omega)
       have hB9 := (hB8.trans hb3).trans hb4
       have hrr9 : Blk W4 hrb 93 #[bs.id, bs.root, bs.grade, bs.colour, bs.lot, bs.made, bs.width, .int .i64 (bs.length - (q + n.length)), .slice Ar rl.length cr] := hr4
       have HVs9 : Hid (ItV W4 { bs with width := bs.width - n.width, length := n.length, faults := [] } (Sheet.valAt { bs with width := bs.width - n.width, length := n.length, faults := [] } none 0)) := ⟨none, 0, rfl, fun i y hy => by simp at hy, fun h => absurd rfl h⟩
       clear hr8 hr3 hr4 hS3 hS4 hc3 hc4 hb3 hb4 hn0 HV8 HVf8 HVr hn8 ht8 hbb8 hff8 hss8 hB8 HVs
       obtain ⟨W, rfl⟩ := is_ W4
       try dsimp only [Act.put]
       have hX := (HAT.out W hB9).1
       have hC : Chg p.has w W := .of_below (by rw [HB0.out]; exact hB9)
       clear hB9
       have c6 := hX.blk.cell_ 6 (v := .map (some p.ri)) rfl
       obtain ⟨y0, y1, y2, y3, y4⟩ := hn9.all5
       obtain ⟨t0, t1, t2, t3, t4, t5, t6, t7⟩ := ht9.all8
       obtain ⟨z0, z1, z2, z3, z4, z5, z6, z7, z8⟩ := hbb9.all9
       obtain ⟨f0, f1, f2, f3, f4, f5, f6, f7, f8⟩ := hff9.all9
       obtain ⟨s0, s1, s2, s3, s4, s5, s6, s7, s8⟩ := hss9.all9
       obtain ⟨r0, r1, r2, r3, r4, r5, r6, r7, r8⟩ := hrr9.all9
       go_wp2_with fail
       refine wp_region_qt 6 (by kernel_rfl) (by kernel_rfl) ?_
       simp only [List.take_succ_cons, List.take_zero, List.drop_succ_cons, List.drop_zero]
       obtain ⟨y_y0, y_y1, y_y2, y_y3, y_y4⟩ := Since.c5 y0 y1 y2 y3 y4
       obtain ⟨y_t0, y_t1, y_t2, y_t3, y_t4, y_t5, y_t6, y_t7⟩ := Since.c8 t0 t1 t2 t3 t4 t5 t6 t7
       obtain ⟨y_z0, y_z1, y_z2, y_z3, y_z4, y_z5, y_z6, y_z7, y_z8⟩ := Since.c9 z0 z1 z2 z3 z4 z5 z6 z7 z8
       obtain ⟨y_f0, y_f1, y_f2, y_f3, y_f4, y_f5, y_f6, y_f7, y_f8⟩ := Since.c9 f0 f1 f2 f3 f4 f5 f6 f7 f8
       obtain ⟨y_s0, y_s1, y_s2, y_s3, y_s4, y_s5, y_s6, y_s7, y_s8⟩ := Since.c9 s0 s1 s2 s3 s4 s5 s6 s7 s8
       obtain ⟨y_r0, y_r1, y_r2, y_r3, y_r4, y_r5, y_r6, y_r7, y_r8⟩ := Since.c9 r0 r1 r2 r3 r4 r5 r6 r7 r8
       have y_c6 := Since.cell c6
       clear y0 y1 y2 y3 y4 t0 t1 t2 t3 t4 t5 t6 t7 z0 z1 z2 z3 z4 z5 z6 z7 z8 f0 f1 f2 f3 f4 f5 f6 f7 f8 s0 s1 s2 s3 s4 s5 s6 s7 s8 r0 r1 r2 r3 r4 r5 r6 r7 r8
       repeat (go_big_quiet_step ((fail)))
       refine wpQuiet_nil ?_
       rintro W ⟨⟨_, hb⟩, rfl⟩
       try dsimp only at hb ⊢
       replace c6 := sat y_c6 hb
       clear y_y0 y_y1 y_y2 y_y3 y_y4 y_t0 y_t1 y_t2 y_t3 y_t4 y_t5 y_t6 y_t7 y_z0 y_z1 y_z2 y_z3 y_z4 y_z5 y_z6 y_z7 y_z8 y_f0 y_f1 y_f2 y_f3 y_f4 y_f5 y_f6 y_f7 y_f8 y_s0 y_s1 y_s2 y_s3 y_s4 y_s5 y_s6 y_s7 y_s8 y_r0 y_r1 y_r2 y_r3 y_r4 y_r5 y_r6 y_r7 y_r8 y_c6
       replace HV9 := hide (ItV.below (Hid.out HV9) hb)
       replace HVf9 := hide (ItV.below (Hid.out HVf9) hb)
       replace HVr9 := hide (ItV.below (Hid.out HVr9) hb)
       replace HVs9 := hide (ItV.below (Hid.out HVs9) hb)
       replace hX := StA.below hX hb
       replace hC := Chg.trans hC (Chg.of_below hb)
       replace hn9 := hn9.below hb hn9.lt
       replace ht9 := ht9.below hb ht9.lt
       replace hbb9 := hbb9.below hb hbb9.lt
       replace hff9 := hff9.below hb hff9.lt
       replace hss9 := hss9.below hb hss9.lt
       replace hrr9 := hrr9.below hb hrr9.lt
       clear hb
       obtain ⟨y0, y1, y2, y3, y4⟩ := hn9.all5
       obtain ⟨t0, t1, t2, t3, t4, t5, t6, t7⟩ := ht9.all8
       obtain ⟨z0, z1, z2, z3, z4, z5, z6, z7, z8⟩ := hbb9.all9
       obtain ⟨f0, f1, f2, f3, f4, f5, f6, f7, f8⟩ := hff9.all9
       obtain ⟨s0, s1, s2, s3, s4, s5, s6, s7, s8⟩ := hss9.all9
       obtain ⟨r0, r1, r2, r3, r4, r5, r6, r7, r8⟩ := hrr9.all9
       clear y0 y1 y2 y3 y4 t0 t1 t2 t3 t4 t5 t6 t7 z0 z1 z2 z3 z4 z5 z6 z7 z8 f0 f1 f2 f3 f4 f5 f6 f7 f8 s0 s1 s2 s3 s4 s5 s6 s7 s8 r0 r1 r2 r3 r4 r5 r6 r7 r8
       clear c6
       obtain ⟨MJ, hMJ, hZJ⟩ := hX.items
       go_upto_region 18 with (refine wpList_del_im rfl rfl _ _ _ _ rfl _ Tryz.underlying62 Tryz.underlying3 p.ri rfl hMJ bs.id rfl ?_; intro W4 hM4 hg4)
       have hX4 := hX.del_item hg4 hZJ hM4
       have hC4 : Chg p.has w W4 := hC.trans (.of_grown hg4 (by simp [Fp.has]))
       have hCW : Chg p.has W W4 := .of_grown hg4 (by simp [Fp.has])
       have hns : ∀ k, p.has k → NoSpan W k := fun k hk => hX.noSpan hk
       have hn := hn9.chgS hX hCW (by decide)
       have ht := ht9.chgS hX hCW (by decide)
       have hbb := hbb9.chgS hX hCW (by decide)
       have hff := hff9.chgS hX hCW (by decide)
       have hss := hss9.chgS hX hCW (by decide)
       have hrr := hrr9.chgS hX hCW (by decide)
       have HVf := hide (HVf9.out.chg hCW hns)
       have HVr := hide (HVr9.out.chg hCW hns)
       have HVs := hide (HVs9.out.chg hCW hns)
       clear hX hC hn9 ht9 hbb9 hff9 hss9 hrr9 HV9 HVf9 HVr9 HVs9 hMJ hZJ hM4 hg4 hCW hns
       obtain ⟨W, rfl⟩ := is_ W4
       have hX := hX4
       have hC := hC4
       clear hX4 hC4
       have HCB := hide (cut_bd HI.out HF.out HN.out HBO.out HLW.out.2 ⟨HQ.out.2.1, HQ.out.2.2.1⟩)
       obtain ⟨sA, hs1⟩ := nm_ (cutA s bs q)
       have H1 := hide hs1
       have A1 := fun W hX hV => add_any p { s with items := del s.items bs.id } { bs with length := q, faults := fl } Af cf bs.id 1 W hX hV HCB.out.aA ⟨HCB.out.w0.1, by have := HCB.out.w0.2; show s.waste ≤ _; omega⟩ ⟨HCB.out.l0.1, by have := HCB.out.l0.2; show s.last ≤ _; omega⟩
       rw [show addF { s with items := del s.items bs.id } { bs with length := q, faults := fl } bs.id 1 = sA by rw [← hs1, ← HFL.out]; rfl] at A1
       have HA1 := hide A1
       clear A1 hs1
       have z0 := hbb.cell_ 0 rfl
       obtain ⟨f0, f1, f2, f3, f4, f5, f6, f7, f8⟩ := hff.all9
       go_wp2_with fail
       clear z0 f0 f1 f2 f3 f4 f5 f6 f7 f8
       refine (HA1.out W hX HVf.out).mono ?_
       rintro e W4 ⟨rfl, hX4, hcc⟩
       clear HA1 hff HVf HFL
       have hns : ∀ k, p.has k → NoSpan W k := fun k hk => hX.noSpan hk
       replace hC := hC.trans hcc
       replace hn := hn.chgS hX hcc (by decide)
       replace ht := ht.chgS hX hcc (by decide)
       replace hbb := hbb.chgS hX hcc (by decide)
       try replace hss := hss.chgS hX hcc (by decide)
       replace hrr := hrr.chgS hX hcc (by decide)
       try replace HVs := hide (HVs.out.chg hcc hns)
       replace HVr := hide (HVr.out.chg hcc hns)
       clear hns hX hcc
       have hX := hX4
       clear hX4
       obtain ⟨W, rfl⟩ := is_ W4
       have c0 := hX.blk.cell_ 0 (v := sA.rules.minWidth) rfl
       obtain ⟨y0, y1, y2, y3, y4⟩ := hn.all5
       obtain ⟨t0, t1, t2, t3, t4, t5, t6, t7⟩ := ht.all8
       obtain ⟨z0, z1, z2, z3, z4, z5, z6, z7, z8⟩ := hbb.all9
       obtain ⟨s0, s1, s2, s3, s4, s5, s6, s7, s8⟩ := hss.all9
       obtain ⟨r0, r1, r2, r3, r4, r5, r6, r7, r8⟩ := hrr.all9
       go_wp2_with fail
       refine wp_region_qt 9 (by kernel_rfl) (by kernel_rfl) ?_
       simp only [List.take_succ_cons, List.take_zero, List.drop_succ_cons, List.drop_zero]
       obtain ⟨y_y0, y_y1, y_y2, y_y3, y_y4⟩ := Since.c5 y0 y1 y2 y3 y4
       obtain ⟨y_t0, y_t1, y_t2, y_t3, y_t4, y_t5, y_t6, y_t7⟩ := Since.c8 t0 t1 t2 t3 t4 t5 t6 t7
       obtain ⟨y_z0, y_z1, y_z2, y_z3, y_z4, y_z5, y_z6, y_z7, y_z8⟩ := Since.c9 z0 z1 z2 z3 z4 z5 z6 z7 z8
       obtain ⟨y_s0, y_s1, y_s2, y_s3, y_s4, y_s5, y_s6, y_s7, y_s8⟩ := Since.c9 s0 s1 s2 s3 s4 s5 s6 s7 s8
       obtain ⟨y_r0, y_r1, y_r2, y_r3, y_r4, y_r5, y_r6, y_r7, y_r8⟩ := Since.c9 r0 r1 r2 r3 r4 r5 r6 r7 r8
       have y_c0 := Since.cell c0
       clear y0 y1 y2 y3 y4 t0 t1 t2 t3 t4 t5 t6 t7 z0 z1 z2 z3 z4 z5 z6 z7 z8 s0 s1 s2 s3 s4 s5 s6 s7 s8 r0 r1 r2 r3 r4 r5 r6 r7 r8
       repeat (go_big_quiet_step ((fail)))
       refine wpQuiet_nil ?_
       rintro W ⟨⟨_, hb⟩, rfl⟩
       try dsimp only at hb ⊢
       replace c0 := sat y_c0 hb
       clear y_y0 y_y1 y_y2 y_y3 y_y4 y_t0 y_t1 y_t2 y_t3 y_t4 y_t5 y_t6 y_t7 y_z0 y_z1 y_z2 y_z3 y_z4 y_z5 y_z6 y_z7 y_z8 y_s0 y_s1 y_s2 y_s3 y_s4 y_s5 y_s6 y_s7 y_s8 y_r0 y_r1 y_r2 y_r3 y_r4 y_r5 y_r6 y_r7 y_r8 y_c0
       replace hX := StA.below hX hb
       replace hC := Chg.trans hC (Chg.of_below hb)
       replace hn := hn.below hb hn.lt
       replace ht := ht.below hb ht.lt
       replace hbb := hbb.below hb hbb.lt
       replace hss := hss.below hb hss.lt
       replace hrr := hrr.below hb hrr.lt
       replace HVr := hide (ItV.below (Hid.out HVr) hb)
       replace HVs := hide (ItV.below (Hid.out HVs) hb)
       clear hb
       obtain ⟨y0, y1, y2, y3, y4⟩ := hn.all5
       obtain ⟨t0, t1, t2, t3, t4, t5, t6, t7⟩ := ht.all8
       obtain ⟨z0, z1, z2, z3, z4, z5, z6, z7, z8⟩ := hbb.all9
       obtain ⟨s0, s1, s2, s3, s4, s5, s6, s7, s8⟩ := hss.all9
       obtain ⟨r0, r1, r2, r3, r4, r5, r6, r7, r8⟩ := hrr.all9
       obtain ⟨sB, hs2⟩ := nm_ (cutB s n bs q)
       have H2 := hide hs2
       have A2 := fun W hX hV => add_any p sA { bs with width := bs.width - n.width, length := n.length, faults := [] } none 0 bs.id sA.rules.minWidth W hX hV HCB.out.aB (by have h := HCB.out.wA; rw [H1.out] at h; omega) (by have h := HCB.out.lA; rw [H1.out] at h; omega)
       rw [show addF sA { bs with width := bs.width - n.width, length := n.length, faults := [] } bs.id sA.rules.minWidth = sB by rw [← hs2, ← H1.out, HCB.out.rA]; try rfl] at A2
       have HA2 := hide A2
       clear A2 hs2
       go_wp2_with fail
       refine (HA2.out W hX HVs.out).mono ?_
       rintro e W4 ⟨rfl, hX4, hcc⟩
       clear y0 y1 y2 y3 y4 t0 t1 t2 t3 t4 t5 t6 t7 z0 z1 z2 z3 z4 z5 z6 z7 z8 s0 s1 s2 s3 s4 s5 s6 s7 s8 r0 r1 r2 r3 r4 r5 r6 r7 r8
       clear c0 HA2 hss HVs H1
       have hns : ∀ k, p.has k → NoSpan W k := fun k hk => hX.noSpan hk
       replace hC := hC.trans hcc
       replace hn := hn.chgS hX hcc (by decide)
       replace ht := ht.chgS hX hcc (by decide)
       replace hbb := hbb.chgS hX hcc (by decide)
       try replace hss := hss.chgS hX hcc (by decide)
       replace hrr := hrr.chgS hX hcc (by decide)
       try replace HVs := hide (HVs.out.chg hcc hns)
       replace HVr := hide (HVr.out.chg hcc hns)
       clear hns hX hcc
       have hX := hX4
       clear hX4
       obtain ⟨W, rfl⟩ := is_ W4
       have c1 := hX.blk.cell_ 1 (v := sB.rules.minLength) rfl
       obtain ⟨y0, y1, y2, y3, y4⟩ := hn.all5
       obtain ⟨t0, t1, t2, t3, t4, t5, t6, t7⟩ := ht.all8
       obtain ⟨z0, z1, z2, z3, z4, z5, z6, z7, z8⟩ := hbb.all9
       obtain ⟨r0, r1, r2, r3, r4, r5, r6, r7, r8⟩ := hrr.all9
       by_cases h1 : sB.rules.minLength ≤ bs.length - (q + n.length)
       case' pos =>
        have d1 : decide (sB.rules.minLength ≤ bs.length - (q + n.length)) = true := by simpa using h1
        obtain ⟨sC, hs3⟩ := nm_ (cutC s n bs q)
        have h3 : sC = { sB with items := put sB.items bs.id { bs with length := bs.length - (q + n.length), faults := rl } } := by rw [← hs3, ← H2.out, ← HRL.out]; unfold cutC restF; rw [if_pos (by rw [H2.out]; exact h1)]
        have H3 := hide hs3
        have H3E := hide h3
        clear h1 h3 hs3
        go_wp2_with fail
        refine wp_region_q (by kernel_rfl) (by kernel_rfl) ?_
        dsimp only
        obtain ⟨y_y0, y_y1, y_y2, y_y3, y_y4⟩ := Since.c5 y0 y1 y2 y3 y4
        obtain ⟨y_t0, y_t1, y_t2, y_t3, y_t4, y_t5, y_t6, y_t7⟩ := Since.c8 t0 t1 t2 t3 t4 t5 t6 t7
        obtain ⟨y_z0, y_z1, y_z2, y_z3, y_z4, y_z5, y_z6, y_z7, y_z8⟩ := Since.c9 z0 z1 z2 z3 z4 z5 z6 z7 z8
        obtain ⟨y_r0, y_r1, y_r2, y_r3, y_r4, y_r5, y_r6, y_r7, y_r8⟩ := Since.c9 r0 r1 r2 r3 r4 r5 r6 r7 r8
        have y_c1 := Since.cell c1
        clear y0 y1 y2 y3 y4 t0 t1 t2 t3 t4 t5 t6 t7 z0 z1 z2 z3 z4 z5 z6 z7 z8 r0 r1 r2 r3 r4 r5 r6 r7 r8
        repeat (go_big_quiet_step ((fail)))
        refine wpQuiet_nil ?_
        rintro W ⟨⟨_, hb⟩, rfl⟩
        try dsimp only at hb ⊢
        replace c1 := sat y_c1 hb
        clear y_y0 y_y1 y_y2 y_y3 y_y4 y_t0 y_t1 y_t2 y_t3 y_t4 y_t5 y_t6 y_t7 y_z0 y_z1 y_z2 y_z3 y_z4 y_z5 y_z6 y_z7 y_z8 y_r0 y_r1 y_r2 y_r3 y_r4 y_r5 y_r6 y_r7 y_r8 y_c1
        replace hX := StA.below hX hb
        replace hC := Chg.trans hC (Chg.of_below hb)
        replace hn := hn.below hb hn.lt
        replace ht := ht.below hb ht.lt
        replace hbb := hbb.below hb hbb.lt
        replace hrr := hrr.below hb hrr.lt
        replace HVr := hide (ItV.below (Hid.out HVr) hb)
        clear hb
        obtain ⟨y0, y1, y2, y3, y4⟩ := hn.all5
        obtain ⟨t0, t1, t2, t3, t4, t5, t6, t7⟩ := ht.all8
        obtain ⟨z0, z1, z2, z3, z4, z5, z6, z7, z8⟩ := hbb.all9
        obtain ⟨r0, r1, r2, r3, r4, r5, r6, r7, r8⟩ := hrr.all9
        clear y0 y1 y2 y3 y4 t0 t1 t2 t3 t4 t5 t6 t7 z0 z1 z2 z3 z4 z5 z6 z7 z8 r0 r1 r2 r3 r4 r5 r6 r7 r8
        clear d1 c1
        have c6 := hX.blk.cell_ 6 (v := .map (some p.ri)) rfl
        obtain ⟨y0, y1, y2, y3, y4⟩ := hn.all5
        obtain ⟨t0, t1, t2, t3, t4, t5, t6, t7⟩ := ht.all8
        obtain ⟨z0, z1, z2, z3, z4, z5, z6, z7, z8⟩ := hbb.all9
        obtain ⟨r0, r1, r2, r3, r4, r5, r6, r7, r8⟩ := hrr.all9
        go_wp2_with fail
        refine wp_region_qt 7 (by kernel_rfl) (by kernel_rfl) ?_
        simp only [List.take_succ_cons, List.take_zero, List.drop_succ_cons, List.drop_zero]
        obtain ⟨y_y0, y_y1, y_y2, y_y3, y_y4⟩ := Since.c5 y0 y1 y2 y3 y4
        obtain ⟨y_t0, y_t1, y_t2, y_t3, y_t4, y_t5, y_t6, y_t7⟩ := Since.c8 t0 t1 t2 t3 t4 t5 t6 t7
        obtain ⟨y_z0, y_z1, y_z2, y_z3, y_z4, y_z5, y_z6, y_z7, y_z8⟩ := Since.c9 z0 z1 z2 z3 z4 z5 z6 z7 z8
        obtain ⟨y_r0, y_r1, y_r2, y_r3, y_r4, y_r5, y_r6, y_r7, y_r8⟩ := Since.c9 r0 r1 r2 r3 r4 r5 r6 r7 r8
        have y_c6 := Since.cell c6
        clear y0 y1 y2 y3 y4 t0 t1 t2 t3 t4 t5 t6 t7 z0 z1 z2 z3 z4 z5 z6 z7 z8 r0 r1 r2 r3 r4 r5 r6 r7 r8
        repeat (go_big_quiet_step ((fail)))
        refine wpQuiet_nil ?_
        rintro W ⟨⟨_, hb⟩, rfl⟩
        try dsimp only at hb ⊢
        replace c6 := sat y_c6 hb
        clear y_y0 y_y1 y_y2 y_y3 y_y4 y_t0 y_t1 y_t2 y_t3 y_t4 y_t5 y_t6 y_t7 y_z0 y_z1 y_z2 y_z3 y_z4 y_z5 y_z6 y_z7 y_z8 y_r0 y_r1 y_r2 y_r3 y_r4 y_r5 y_r6 y_r7 y_r8 y_c6
        replace hX := StA.below hX hb
        replace hC := Chg.trans hC (Chg.of_below hb)
        replace hn := hn.below hb hn.lt
        replace ht := ht.below hb ht.lt
        replace hbb := hbb.below hb hbb.lt
        replace hrr := hrr.below hb hrr.lt
        replace HVr := hide (ItV.below (Hid.out HVr) hb)
        clear hb
        obtain ⟨y0, y1, y2, y3, y4⟩ := hn.all5
        obtain ⟨t0, t1, t2, t3, t4, t5, t6, t7⟩ := ht.all8
        obtain ⟨z0, z1, z2, z3, z4, z5, z6, z7, z8⟩ := hbb.all9
        obtain ⟨r0, r1, r2, r3, r4, r5, r6, r7, r8⟩ := hrr.all9
        clear y0 y1 y2 y3 y4 t0 t1 t2 t3 t4 t5 t6 t7 z0 z1 z2 z3 z4 z5 z6 z7 z8 r0 r1 r2 r3 r4 r5 r6 r7 r8
        clear c6
        obtain ⟨MJ, hM, hZ⟩ := hX.items
        have hIt : ItV W { bs with length := bs.length - (q + n.length), faults := rl } (.agg #[bs.id, bs.root, bs.grade, bs.colour, bs.lot, bs.made, bs.width, .int .i64 (bs.length - (q + n.length)), .slice Ar rl.length cr]) := HVr.out
        go_upto_region 23 with (refine wpList_put_im rfl rfl _ _ _ _ rfl _ _ Tryz.underlying62 Tryz.underlying3 p.ri rfl hM bs.id (.agg #[bs.id, bs.root, bs.grade, bs.colour, bs.lot, bs.made, bs.width, .int .i64 (bs.length - (q + n.length)), .slice Ar rl.length cr]) rfl rfl ?_; intro W9 hM9 hg9)
        have hX9 : StA W9 p sC := by rw [H3E.out]; exact hX.put_item (x := { bs with length := bs.length - (q + n.length), faults := rl }) hg9 hZ hM9 hIt
        have hcc : Chg p.has W W9 := .of_grown hg9 (by simp [Fp.has])
       case' neg =>
        have d1 : decide (sB.rules.minLength ≤ bs.length - (q + n.length)) = false := by simpa using h1
        obtain ⟨sC, hs3⟩ := nm_ (cutC s n bs q)
        have h3 : sC = { sB with waste := sB.waste + bs.width * (bs.length - (q + n.length)) } := by rw [← hs3, ← H2.out]; unfold cutC restF; rw [if_neg (by rw [H2.out]; exact h1)]
        have H3 := hide hs3
        have H3E := hide h3
        clear h1 h3 hs3
        go_wp2_with fail
        refine wp_region_q (by kernel_rfl) (by kernel_rfl) ?_
        dsimp only
        obtain ⟨y_y0, y_y1, y_y2, y_y3, y_y4⟩ := Since.c5 y0 y1 y2 y3 y4
        obtain ⟨y_t0, y_t1, y_t2, y_t3, y_t4, y_t5, y_t6, y_t7⟩ := Since.c8 t0 t1 t2 t3 t4 t5 t6 t7
        obtain ⟨y_z0, y_z1, y_z2, y_z3, y_z4, y_z5, y_z6, y_z7, y_z8⟩ := Since.c9 z0 z1 z2 z3 z4 z5 z6 z7 z8
        obtain ⟨y_r0, y_r1, y_r2, y_r3, y_r4, y_r5, y_r6, y_r7, y_r8⟩ := Since.c9 r0 r1 r2 r3 r4 r5 r6 r7 r8
        have y_c1 := Since.cell c1
        clear y0 y1 y2 y3 y4 t0 t1 t2 t3 t4 t5 t6 t7 z0 z1 z2 z3 z4 z5 z6 z7 z8 r0 r1 r2 r3 r4 r5 r6 r7 r8
        repeat (go_big_quiet_step ((fail)))
        refine wpQuiet_nil ?_
        rintro W ⟨⟨_, hb⟩, rfl⟩
        try dsimp only at hb ⊢
        replace c1 := sat y_c1 hb
        clear y_y0 y_y1 y_y2 y_y3 y_y4 y_t0 y_t1 y_t2 y_t3 y_t4 y_t5 y_t6 y_t7 y_z0 y_z1 y_z2 y_z3 y_z4 y_z5 y_z6 y_z7 y_z8 y_r0 y_r1 y_r2 y_r3 y_r4 y_r5 y_r6 y_r7 y_r8 y_c1
        replace hX := StA.below hX hb
        replace hC := Chg.trans hC (Chg.of_below hb)
        replace hn := hn.below hb hn.lt
        replace ht := ht.below hb ht.lt
        replace hbb := hbb.below hb hbb.lt
        replace hrr := hrr.below hb hrr.lt
        replace HVr := hide (ItV.below (Hid.out HVr) hb)
        clear hb
        obtain ⟨y0, y1, y2, y3, y4⟩ := hn.all5
        obtain ⟨t0, t1, t2, t3, t4, t5, t6, t7⟩ := ht.all8
        obtain ⟨z0, z1, z2, z3, z4, z5, z6, z7, z8⟩ := hbb.all9
        obtain ⟨r0, r1, r2, r3, r4, r5, r6, r7, r8⟩ := hrr.all9
        clear y0 y1 y2 y3 y4 t0 t1 t2 t3 t4 t5 t6 t7 z0 z1 z2 z3 z4 z5 z6 z7 z8 r0 r1 r2 r3 r4 r5 r6 r7 r8
        clear d1 c1
        have c12 := hX.blk.cell_ 12 (v := sB.waste) rfl
        have e1 := IntWalk.i64_in (bs.width * (bs.length - (q + n.length))) (by have := HCB.out.aC; omega)
        have e2 := IntWalk.i64_in (sB.waste + bs.width * (bs.length - (q + n.length))) (by have := HCB.out.aC; have h := HCB.out.wB; rw [H2.out] at h; omega)
        obtain ⟨y0, y1, y2, y3, y4⟩ := hn.all5
        obtain ⟨t0, t1, t2, t3, t4, t5, t6, t7⟩ := ht.all8
        obtain ⟨z0, z1, z2, z3, z4, z5, z6, z7, z8⟩ := hbb.all9
        obtain ⟨r0, r1, r2, r3, r4, r5, r6, r7, r8⟩ := hrr.all9
        go_wp2_with fail
        refine wp_region_qt 12 (by kernel_rfl) (by kernel_rfl) ?_
        simp only [List.take_succ_cons, List.take_zero, List.drop_succ_cons, List.drop_zero]
        obtain ⟨y_y0, y_y1, y_y2, y_y3, y_y4⟩ := Since.c5 y0 y1 y2 y3 y4
        obtain ⟨y_t0, y_t1, y_t2, y_t3, y_t4, y_t5, y_t6, y_t7⟩ := Since.c8 t0 t1 t2 t3 t4 t5 t6 t7
        obtain ⟨y_z0, y_z1, y_z2, y_z3, y_z4, y_z5, y_z6, y_z7, y_z8⟩ := Since.c9 z0 z1 z2 z3 z4 z5 z6 z7 z8
        obtain ⟨y_r0, y_r1, y_r2, y_r3, y_r4, y_r5, y_r6, y_r7, y_r8⟩ := Since.c9 r0 r1 r2 r3 r4 r5 r6 r7 r8
        have y_c12 := Since.cell c12
        clear y0 y1 y2 y3 y4 t0 t1 t2 t3 t4 t5 t6 t7 z0 z1 z2 z3 z4 z5 z6 z7 z8 r0 r1 r2 r3 r4 r5 r6 r7 r8
        repeat (go_big_quiet_step ((fail)))
        refine wpQuiet_nil ?_
        rintro W ⟨⟨_, hb⟩, rfl⟩
        try dsimp only at hb ⊢
        replace c12 := sat y_c12 hb
        clear y_y0 y_y1 y_y2 y_y3 y_y4 y_t0 y_t1 y_t2 y_t3 y_t4 y_t5 y_t6 y_t7 y_z0 y_z1 y_z2 y_z3 y_z4 y_z5 y_z6 y_z7 y_z8 y_r0 y_r1 y_r2 y_r3 y_r4 y_r5 y_r6 y_r7 y_r8 y_c12
        replace hX := StA.below hX hb
        replace hC := Chg.trans hC (Chg.of_below hb)
        replace hn := hn.below hb hn.lt
        replace ht := ht.below hb ht.lt
        replace hbb := hbb.below hb hbb.lt
        replace hrr := hrr.below hb hrr.lt
        replace HVr := hide (ItV.below (Hid.out HVr) hb)
        clear hb
        obtain ⟨y0, y1, y2, y3, y4⟩ := hn.all5
        obtain ⟨t0, t1, t2, t3, t4, t5, t6, t7⟩ := ht.all8
        obtain ⟨z0, z1, z2, z3, z4, z5, z6, z7, z8⟩ := hbb.all9
        obtain ⟨r0, r1, r2, r3, r4, r5, r6, r7, r8⟩ := hrr.all9
        clear y0 y1 y2 y3 y4 t0 t1 t2 t3 t4 t5 t6 t7 z0 z1 z2 z3 z4 z5 z6 z7 z8 r0 r1 r2 r3 r4 r5 r6 r7 r8
        clear c12 e1
        go_upto_region 23 with (refine wpList_store_at rfl 3 _ _ rfl (.int .i64 (sB.waste + bs.width * (bs.length - (q + n.length)))) hX.blk rfl rfl (by kernel_rfl) rfl (by simp [storeCells_]) rfl ?_; intro W9 hB9 hc9)
        have hX9 : StA W9 p sC := by rw [H3E.out]; exact hX.upd_blk (s' := { sB with waste := sB.waste + bs.width * (bs.length - (q + n.length)) }) hc9 hB9 (by simp [storeCells_]) rfl rfl rfl rfl
        have hcc : Chg p.has W W9 := hc9.mono fun k _ hk => .inl hk
        clear hB9 hc9 e2
       all_goals
        replace hC := hC.trans hcc
        replace hn := hn.chgS hX hcc (by decide)
        replace ht := ht.chgS hX hcc (by decide)
        replace hbb := hbb.chgS hX hcc (by decide)
        clear hX hcc hrr HVr H3E H2 HRL
        have hX := hX9
        clear hX9
        obtain ⟨W, rfl⟩ := is_ W9
        have c10 := hX.blk.cell_ 10 (v := sC.last) rfl
        have e1 := IntWalk.i64_in (sC.last + 1) (by have h := HCB.out.lC; rw [H3.out] at h; omega)
        go_upto_region 24 with (refine wpList_store_at rfl 3 _ _ rfl (.int .i64 (sC.last + 1)) hX.blk rfl rfl (by kernel_rfl) rfl (by simp [storeCells_]) rfl ?_; intro W3 hB3 hc3)
        have hX3 := hX.upd_blk (s' := { sC with last := sC.last + 1 }) hc3 hB3 (by simp [storeCells_]) rfl rfl rfl rfl
        replace hn := hn.chg1 hc3 (hn.ne_ hX.blk (by decide))
        replace ht := ht.chg1 hc3 (ht.ne_ hX.blk (by decide))
        replace hbb := hbb.chg1 hc3 (hbb.ne_ hX.blk (by decide))
        replace hC := hC.trans (hc3.mono fun k _ hk => .inl hk)
        clear hX hB3 hc3 c10 e1
        have hX := hX3
        clear hX3
        obtain ⟨W, rfl⟩ := is_ W3
        try dsimp only [Act.put]
        have c10 := hX.blk.cell_ 10 (v := .int .i64 (sC.last + 1)) rfl
        obtain ⟨y0, y1, y2, y3, y4⟩ := hn.all5
        obtain ⟨t0, t1, t2, t3, t4, t5, t6, t7⟩ := ht.all8
        obtain ⟨z0, z1, z2, z3, z4, z5, z6, z7, z8⟩ := hbb.all9
        go_wp2_with fail
        have z_y0 := Since.hid y0
        have z_y1 := Since.hid y1
        have z_y2 := Since.hid y2
        have z_y3 := Since.hid y3
        have z_y4 := Since.hid y4
        have z_t0 := Since.hid t0
        have z_t1 := Since.hid t1
        have z_t2 := Since.hid t2
        have z_t3 := Since.hid t3
        have z_t4 := Since.hid t4
        have z_t5 := Since.hid t5
        have z_t6 := Since.hid t6
        have z_t7 := Since.hid t7
        have z_z0 := Since.hid z0
        have z_z1 := Since.hid z1
        have z_z2 := Since.hid z2
        have z_z3 := Since.hid z3
        have z_z4 := Since.hid z4
        have z_z5 := Since.hid z5
        have z_z6 := Since.hid z6
        have z_z7 := Since.hid z7
        have z_z8 := Since.hid z8
        have z_c10 := Since.hid c10
        have hok : FldOk W ([⟨16, .ptr, (.cells ↑zpA 96), 17, (.cells #[.int .i64 (sC.last + 1), bs.root, lot, bs.grade, bs.colour, n.width, n.length, .int .i64 0] 96)⟩]) [] := FldOk.nil_
        refine wp_region_both 18 [0, 1, 2, 3, 4, 5, 6, 7, 8, 9, 10, 11, 12, 13, 14, 15] [16, 17] [⟨16, .ptr, (.cells ↑zpA 96), 17, (.cells #[.int .i64 (sC.last + 1), bs.root, lot, bs.grade, bs.colour, n.width, n.length, .int .i64 0] 96)⟩] [] (fun f hf => by cases hf) (by kernel_rfl) (by kernel_rfl) (by kernel_rfl) (by kernel_rfl) (by kernel_rfl) (by simp) ?_
        apply Exists.intro
        refine ⟨fun W1 hc0 => ?_, ?_⟩
        ·have hb := hc0.nil_
         have y_y0 := Since.cell (z_y0.out W1 hb)
         have y_y1 := Since.cell (z_y1.out W1 hb)
         have y_y2 := Since.cell (z_y2.out W1 hb)
         have y_y3 := Since.cell (z_y3.out W1 hb)
         have y_y4 := Since.cell (z_y4.out W1 hb)
         have y_t0 := Since.cell (z_t0.out W1 hb)
         have y_t1 := Since.cell (z_t1.out W1 hb)
         have y_t2 := Since.cell (z_t2.out W1 hb)
         have y_t3 := Since.cell (z_t3.out W1 hb)
         have y_t4 := Since.cell (z_t4.out W1 hb)
         have y_t5 := Since.cell (z_t5.out W1 hb)
         have y_t6 := Since.cell (z_t6.out W1 hb)
         have y_t7 := Since.cell (z_t7.out W1 hb)
         have y_z0 := Since.cell (z_z0.out W1 hb)
         have y_z1 := Since.cell (z_z1.out W1 hb)
         have y_z2 := Since.cell (z_z2.out W1 hb)
         have y_z3 := Since.cell (z_z3.out W1 hb)
         have y_z4 := Since.cell (z_z4.out W1 hb)
         have y_z5 := Since.cell (z_z5.out W1 hb)
         have y_z6 := Since.cell (z_z6.out W1 hb)
         have y_z7 := Since.cell (z_z7.out W1 hb)
         have y_z8 := Since.cell (z_z8.out W1 hb)
         have y_c10 := Since.cell (z_c10.out W1 hb)
         replace hX := StA.below hX hb
         replace hC := Chg.trans hC (Chg.of_below hb)
         replace hn := hn.below hb hn.lt
         replace ht := ht.below hb ht.lt
         replace hbb := hbb.below hb hbb.lt
         dsimp only [pick, List.filterMap, List.getElem?_cons_succ, List.getElem?_cons_zero]
         iterate 15 (go_big_quiet_step (fail))
         refine BigFrame.wpQuiet_want rfl (fun K hK => ⟨.agg #[.int .i64 (sC.last + 1), bs.root, lot, bs.grade, bs.colour, n.width, n.length, .int .i64 0], fun w0 _ => ?_, hK _ ?_⟩)
         ·unfold Oper.quietAt; rw [exec_bstruct rfl (by simp [Act.eval]) (run_piece (sC.last + 1) bs.root lot bs.grade bs.colour n.width n.length w0)]; exact ⟨rfl, rfl⟩
         clear hK K
         simp only [Act.put, List.setIfInBounds_toArray, List.set_cons_succ, List.set_cons_zero]
         exact wpQuiet_nil rfl
        ·refine ownWalk_alloc ⟨16, .ptr, (.cells ↑zpA 96), 17, (.cells #[.int .i64 (sC.last + 1), bs.root, lot, bs.grade, bs.colour, n.width, n.length, .int .i64 0] 96)⟩ hok (by kernel_rfl) rfl rfl rfl rfl (fun _ => rfl) (by simp) (by simp) (fun h => absurd h (by simp)) ?_
         intro hob
         simp only [Shape.val, List.setIfInBounds_toArray, List.set_cons_succ, List.set_cons_zero]
         refine ownWalk_fill (cs := ↑zpA) (cs' := #[.int .i64 (sC.last + 1), bs.root, lot, bs.grade, bs.colour, n.width, n.length, .int .i64 0]) ⟨16, .ptr, (.cells ↑zpA 96), 17, (.cells #[.int .i64 (sC.last + 1), bs.root, lot, bs.grade, bs.colour, n.width, n.length, .int .i64 0] 96)⟩ hok (by kernel_rfl) rfl rfl rfl rfl rfl rfl rfl rfl (by kernel_rfl) rfl (by simp [Value.oneCell']) rfl rfl (by simp) (by simp) (by simp) rfl ?_ (by simp)
         refine ownWalk_nil ?_
         intro w' hc0 hD
         have hb := hc0.nil_
         obtain ⟨hoge, ho⟩ := hD.box.get (x := ⟨16, .ptr, (.cells ↑zpA 96), 17, (.cells #[.int .i64 (sC.last + 1), bs.root, lot, bs.grade, bs.colour, n.width, n.length, .int .i64 0] 96)⟩) (o := (.cells #[.int .i64 (sC.last + 1), bs.root, lot, bs.grade, bs.colour, n.width, n.length, .int .i64 0] 96)) (by simp) rfl rfl
         replace ho : Blk _ _ _ _ := ho
         clear hD
         try simp only [List.drop_succ_cons, List.drop_zero]
         replace c10 : w'.cell? _ = _ := z_c10.out w' hb
         clear z_y0 z_y1 z_y2 z_y3 z_y4 z_t0 z_t1 z_t2 z_t3 z_t4 z_t5 z_t6 z_t7 z_z0 z_z1 z_z2 z_z3 z_z4 z_z5 z_z6 z_z7 z_z8 z_c10
         clear y0 y1 y2 y3 y4 t0 t1 t2 t3 t4 t5 t6 t7 z0 z1 z2 z3 z4 z5 z6 z7 z8
         replace hX := StA.below hX hb
         replace hC := Chg.trans hC (Chg.of_below hb)
         replace hn := hn.below hb hn.lt
         replace ht := ht.below hb ht.lt
         replace hbb := hbb.below hb hbb.lt
         clear hb hok hc0
         obtain ⟨W, rfl⟩ := is_ w'
         obtain ⟨y0, y1, y2, y3, y4⟩ := hn.all5
         obtain ⟨t0, t1, t2, t3, t4, t5, t6, t7⟩ := ht.all8
         obtain ⟨z0, z1, z2, z3, z4, z5, z6, z7, z8⟩ := hbb.all9
         obtain ⟨o0, o1, o2, o3, o4, o5, o6, o7⟩ := ho.all8
         clear y0 y1 y2 y3 y4 t0 t1 t2 t3 t4 t5 t6 t7 z0 z1 z2 z3 z4 z5 z6 z7 z8 o0 o1 o2 o3 o4 o5 o6 o7
         clear c10
         have c8 := hX.blk.cell_ 8 (v := .map (some p.rq)) rfl
         obtain ⟨y0, y1, y2, y3, y4⟩ := hn.all5
         obtain ⟨t0, t1, t2, t3, t4, t5, t6, t7⟩ := ht.all8
         obtain ⟨z0, z1, z2, z3, z4, z5, z6, z7, z8⟩ := hbb.all9
         obtain ⟨o0, o1, o2, o3, o4, o5, o6, o7⟩ := ho.all8
         go_wp2_with fail
         refine wp_region_qt 8 (by kernel_rfl) (by kernel_rfl) ?_
         simp only [List.take_succ_cons, List.take_zero, List.drop_succ_cons, List.drop_zero]
         obtain ⟨y_y0, y_y1, y_y2, y_y3, y_y4⟩ := Since.c5 y0 y1 y2 y3 y4
         obtain ⟨y_t0, y_t1, y_t2, y_t3, y_t4, y_t5, y_t6, y_t7⟩ := Since.c8 t0 t1 t2 t3 t4 t5 t6 t7
         obtain ⟨y_z0, y_z1, y_z2, y_z3, y_z4, y_z5, y_z6, y_z7, y_z8⟩ := Since.c9 z0 z1 z2 z3 z4 z5 z6 z7 z8
         obtain ⟨y_o0, y_o1, y_o2, y_o3, y_o4, y_o5, y_o6, y_o7⟩ := Since.c8 o0 o1 o2 o3 o4 o5 o6 o7
         have y_c8 := Since.cell c8
         clear y0 y1 y2 y3 y4 t0 t1 t2 t3 t4 t5 t6 t7 z0 z1 z2 z3 z4 z5 z6 z7 z8 o0 o1 o2 o3 o4 o5 o6 o7
         repeat (go_big_quiet_step ((fail)))
         refine wpQuiet_nil ?_
         rintro W ⟨⟨_, hb⟩, rfl⟩
         try dsimp only at hb ⊢
         replace c8 := sat y_c8 hb
         clear y_y0 y_y1 y_y2 y_y3 y_y4 y_t0 y_t1 y_t2 y_t3 y_t4 y_t5 y_t6 y_t7 y_z0 y_z1 y_z2 y_z3 y_z4 y_z5 y_z6 y_z7 y_z8 y_o0 y_o1 y_o2 y_o3 y_o4 y_o5 y_o6 y_o7 y_c8
         replace hX := StA.below hX hb
         replace hC := Chg.trans hC (Chg.of_below hb)
         replace hn := hn.below hb hn.lt
         replace ht := ht.below hb ht.lt
         replace hbb := hbb.below hb hbb.lt
         replace ho := ho.below hb ho.lt
         clear hb
         obtain ⟨y0, y1, y2, y3, y4⟩ := hn.all5
         obtain ⟨t0, t1, t2, t3, t4, t5, t6, t7⟩ := ht.all8
         obtain ⟨z0, z1, z2, z3, z4, z5, z6, z7, z8⟩ := hbb.all9
         obtain ⟨o0, o1, o2, o3, o4, o5, o6, o7⟩ := ho.all8
         clear y0 y1 y2 y3 y4 t0 t1 t2 t3 t4 t5 t6 t7 z0 z1 z2 z3 z4 z5 z6 z7 z8 o0 o1 o2 o3 o4 o5 o6 o7
         clear c8
         go_upto_region 26 with (refine wpList_put_im rfl rfl _ _ _ _ rfl _ _ Tryz.underlying64 Tryz.underlying3 p.rq rfl hX.parent (sC.last + 1) (.int .i64 bs.id) rfl rfl ?_; intro W6 hM6 hg6)
         have hX6 := hX.upd_parent (P' := put sC.parent (sC.last + 1) bs.id) hg6 (by rw [← put_kv]; exact hM6)
         have hcc : Chg p.has W W6 := .of_grown hg6 (by simp [Fp.has])
         replace ho := ho.chgS hX hcc (by decide)
         replace hC := hC.trans hcc
         replace hn := hn.chgS hX hcc (by decide)
         replace ht := ht.chgS hX hcc (by decide)
         replace hbb := hbb.chgS hX hcc (by decide)
         clear hX hM6 hg6 hcc
         have hX := hX6
         clear hX6
         obtain ⟨W, rfl⟩ := is_ W6
         have c7 := hX.blk.cell_ 7 (v := .map (some p.rp)) rfl
         obtain ⟨y0, y1, y2, y3, y4⟩ := hn.all5
         obtain ⟨t0, t1, t2, t3, t4, t5, t6, t7⟩ := ht.all8
         obtain ⟨z0, z1, z2, z3, z4, z5, z6, z7, z8⟩ := hbb.all9
         obtain ⟨o0, o1, o2, o3, o4, o5, o6, o7⟩ := ho.all8
         go_wp2_with fail
         refine wp_region_qt 7 (by kernel_rfl) (by kernel_rfl) ?_
         simp only [List.take_succ_cons, List.take_zero, List.drop_succ_cons, List.drop_zero]
         obtain ⟨y_y0, y_y1, y_y2, y_y3, y_y4⟩ := Since.c5 y0 y1 y2 y3 y4
         obtain ⟨y_t0, y_t1, y_t2, y_t3, y_t4, y_t5, y_t6, y_t7⟩ := Since.c8 t0 t1 t2 t3 t4 t5 t6 t7
         obtain ⟨y_z0, y_z1, y_z2, y_z3, y_z4, y_z5, y_z6, y_z7, y_z8⟩ := Since.c9 z0 z1 z2 z3 z4 z5 z6 z7 z8
         obtain ⟨y_o0, y_o1, y_o2, y_o3, y_o4, y_o5, y_o6, y_o7⟩ := Since.c8 o0 o1 o2 o3 o4 o5 o6 o7
         have y_c7 := Since.cell c7
         clear y0 y1 y2 y3 y4 t0 t1 t2 t3 t4 t5 t6 t7 z0 z1 z2 z3 z4 z5 z6 z7 z8 o0 o1 o2 o3 o4 o5 o6 o7
         repeat (go_big_quiet_step ((fail)))
         refine wpQuiet_nil ?_
         rintro W ⟨⟨_, hb⟩, rfl⟩
         try dsimp only at hb ⊢
         replace c7 := sat y_c7 hb
         clear y_y0 y_y1 y_y2 y_y3 y_y4 y_t0 y_t1 y_t2 y_t3 y_t4 y_t5 y_t6 y_t7 y_z0 y_z1 y_z2 y_z3 y_z4 y_z5 y_z6 y_z7 y_z8 y_o0 y_o1 y_o2 y_o3 y_o4 y_o5 y_o6 y_o7 y_c7
         replace hX := StA.below hX hb
         replace hC := Chg.trans hC (Chg.of_below hb)
         replace hn := hn.below hb hn.lt
         replace ht := ht.below hb ht.lt
         replace hbb := hbb.below hb hbb.lt
         replace ho := ho.below hb ho.lt
         clear hb
         obtain ⟨y0, y1, y2, y3, y4⟩ := hn.all5
         obtain ⟨t0, t1, t2, t3, t4, t5, t6, t7⟩ := ht.all8
         obtain ⟨z0, z1, z2, z3, z4, z5, z6, z7, z8⟩ := hbb.all9
         obtain ⟨o0, o1, o2, o3, o4, o5, o6, o7⟩ := ho.all8
         clear y0 y1 y2 y3 y4 t0 t1 t2 t3 t4 t5 t6 t7 z0 z1 z2 z3 z4 z5 z6 z7 z8 o0 o1 o2 o3 o4 o5 o6 o7
         clear c7
         go_upto_region 27 with (refine wpList_put_im rfl rfl _ _ _ _ rfl _ _ Tryz.underlying63 Tryz.underlying3 p.rp rfl hX.pieces (sC.last + 1) (.agg #[.int .i64 (sC.last + 1), bs.root, lot, bs.grade, bs.colour, n.width, n.length, .int .i64 0]) rfl rfl ?_; intro W6 hM6 hg6)
         have hX6 := hX.put_piece (x := pieceF sC n lot bs) hg6 hM6
         have hcc : Chg p.has W W6 := .of_grown hg6 (by simp [Fp.has])
         replace ho := ho.chgS hX hcc (by decide)
         replace hC := hC.trans hcc
         replace hn := hn.chgS hX hcc (by decide)
         replace ht := ht.chgS hX hcc (by decide)
         replace hbb := hbb.chgS hX hcc (by decide)
         clear hX hM6 hg6 hcc
         have hX := hX6
         clear hX6
         obtain ⟨W, rfl⟩ := is_ W6
         obtain ⟨o0, o1, o2, o3, o4, o5, o6, o7⟩ := ho.all8
         go_wp2_with (refine wpList_store_blk rfl 96 _ _ rfl #[.int .i64 (sC.last + 1), bs.root, lot, bs.grade, bs.colour, n.width, n.length, .int .i64 0] ht rfl rfl (by kernel_rfl) rfl (by simp [Value.oneCell']) ?_; intro W9 ht9 hc9; obtain ⟨q0, q1, q2, q3, q4, q5, q6, q7⟩ := ht9.all8)
         have hX9 := hX.chg1 hc9 ht (by decide) (by decide)
         have hC9 : Chg p.has w W9 := hC.of_new hc9 (by have := HB0.out; omega)
         refine bodyPost_ret (v := .tuple #[.agg #[.int .i64 (sC.last + 1), bs.root, lot, bs.grade, bs.colour, n.width, n.length, .int .i64 0], .bool true]) (by simp [results, Tryz.results77, go_sem, q0, q1, q2, q3, q4, q5, q6, q7]) rfl ?_
         unfold CutPost
         rw [HES.out, H3.out]
         exact ⟨rfl, hX9, hC9⟩
  ·intro k v L1 L2 w1 hLe hit1 hg1 hen
   have hkv : (k, v) ∈ MI := HLM.out _ (by rw [hLe]; simp)
   have hlt := ht.lt
   have hltb := hbb.lt
   have hB1 : Below b0 w w1 := hB.grown hg1 (by omega) (fun k hk => by cases hk; have := HIT.out; omega)
   obtain ⟨x, hx, hVx⟩ := zip_mem (HAT.out w1 hB1).2.2 hkv
   obtain ⟨A2, c2, rfl, hrest⟩ := id hVx
   clear hrest
   have HLK := hide (look_mem HI.out.ki hx)
   have HXI := hide hx
   obtain ⟨hxk, hxo⟩ := HI.out.it _ _ HLK.out
   have HXK := hide hxk
   have HXO := hide hxo
   have HLE := hide hLe
   have HMS : Hid (leftN W it = (L1 ++ L2).length + 1) := by show _ = _; rw [hit.left_eq, hLe]; simp; omega
   have HLM2 : Hid (∀ q ∈ L1 ++ L2, q ∈ MI) := fun q hq => HLM.out q (by rw [hLe]; simp at hq ⊢; rcases hq with h | h <;> simp [h])
   have hV1 := HV.out.chg (S := fun k => k = it) (.of_grown hg1 rfl) fun k hk => by subst hk; exact hit.noSpan
   replace hn := hn.grown hg1 (by simp; have := HIT.out; omega)
   replace ht := ht.grown hg1 (by simp; have := HIT.out; omega)
   replace hbb := hbb.grown hg1 (by simp; have := HIT.out; omega)
   clear hB hit hg1 hkv hx hxk hxo hLe HLM HV hlt hltb
   unfold Sheet.valAt at hen
   have hxx := Blk.new w1 93 ↑(x, A2, c2)
   have hal := (Below.refl w1.heap.size w1).alloc (Nat.le_refl _) (.cells ↑(x, A2, c2) 93)
   have hsz1 : b0 ≤ w1.heap.size := by have := hn.lt; omega
   have HSZ1 := hide (show b0 + 1 + 1 < w1.heap.size from hbb.lt)
   go_upto_region 5 with fail
   replace hn := hn.below hal hn.lt
   replace ht := ht.below hal ht.lt
   replace hbb := hbb.below hal hbb.lt
   replace hV1 := hV1.below hal
   replace hVx := hVx.below hal
   replace hit1 := hit1.below hal hit1.map_.lt hit1.lt
   have hB := hB1.trans (hal.mono hsz1)
   clear hal hen hB1 hsz1
   generalize w1.alloc (.cells ↑(x, A2, c2) 93) = W3 at *
   generalize w1.heap.size = bx at *
   obtain ⟨W, rfl⟩ := is_ W3
   have HV := hide hV1
   have HVX := hide hVx
   clear hV1 hVx
   have HCD : Hid (candF s.rules n lot day x = (decide (x.lot = lot) && decide (n.width ≤ x.width) && useF s.rules x day && (clear x.length x.faults n.length).isSome)) := rfl
   have HS0 : Hid (b0 ≤ bx) := by have := HSZ1.out; show _ ≤ _; omega
   obtain ⟨y0, y1, y2, y3, y4⟩ := hn.all5
   obtain ⟨z0, z1, z2, z3, z4, z5, z6, z7, z8⟩ := hbb.all9
   obtain ⟨x0, x1, x2, x3, x4, x5, x6, x7, x8⟩ := hxx.all9
   by_cases h1 : x.lot = lot
   ·by_cases h2 : x.width < n.width
    ·have HCF : Hid (candF s.rules n lot day x = false) := by show _ = _; rw [HCD.out, decide_eq_false (show ¬ n.width ≤ x.width by omega)]; simp
     go_wp2_with fail
     clear h1 h2
     clear y0 y1 y2 y3 y4 z0 z1 z2 z3 z4 z5 z6 z7 z8 x0 x1 x2 x3 x4 x5 x6 x7 x8
     go_roundw
     case rel => exact ⟨o, bs, A, c, L1 ++ L2, hit1, ⟨HBK.out.1, best_skip HI.out.ki HXI.out HCF.out (by rw [← HLE.out]; exact HBK.out.2)⟩, HLM2, hn, ht, hbb, HV, hB⟩
     case measure => rw [HMS.out, hit1.left_eq]; omega
    ·cases hu : useF s.rules x day with
     | false =>
      have HCF : Hid (candF s.rules n lot day x = false) := by show _ = _; rw [HCD.out, hu]; simp
      have U := fun W hXW => usable_any p s x A2 c2 day W hXW HXO.out.g HXO.out.m HD.out hu
      rw [h1] at U
      have HU := hide U
      clear U hu
      go_wp2_with fail
      refine (HU.out _ (HAT.out _ hB).1).mono ?_
      rintro e W ⟨rfl, hb⟩
      clear y0 y1 y2 y3 y4 z0 z1 z2 z3 z4 z5 z6 z7 z8 x0 x1 x2 x3 x4 x5 x6 x7 x8
      replace hB := Below.trans hB (Below.mono hb (Nat.le_trans HS0.out (Nat.le_of_lt (Blk.lt hxx))))
      replace hn := hn.below hb hn.lt
      replace ht := Blk.below ht hb (Blk.lt ht)
      replace hbb := hbb.below hb hbb.lt
      replace hxx := hxx.below hb hxx.lt
      replace HV := hide (ItV.below (Hid.out HV) hb)
      replace HVX := hide (ItV.below (Hid.out HVX) hb)
      replace hit1 := IterOf.below hit1 hb (MapOf.lt (IterOf.map_ hit1)) (IterOf.lt hit1)
      clear hb
      obtain ⟨y0, y1, y2, y3, y4⟩ := hn.all5
      obtain ⟨z0, z1, z2, z3, z4, z5, z6, z7, z8⟩ := hbb.all9
      obtain ⟨x0, x1, x2, x3, x4, x5, x6, x7, x8⟩ := hxx.all9
      go_wp2_with fail
      clear h1 h2 HU
      clear y0 y1 y2 y3 y4 z0 z1 z2 z3 z4 z5 z6 z7 z8 x0 x1 x2 x3 x4 x5 x6 x7 x8
      go_roundw
      case rel => exact ⟨o, bs, A, c, L1 ++ L2, hit1, ⟨HBK.out.1, best_skip HI.out.ki HXI.out HCF.out (by rw [← HLE.out]; exact HBK.out.2)⟩, HLM2, hn, ht, hbb, HV, hB⟩
      case measure => rw [HMS.out, hit1.left_eq]; omega
     | true =>
      cases hcl : clear x.length x.faults n.length with
      | none =>
       have HCF : Hid (candF s.rules n lot day x = false) := by show _ = _; rw [HCD.out, hcl]; simp
       have U := fun W hXW => usable_any p s x A2 c2 day W hXW HXO.out.g HXO.out.m HD.out hu
       rw [h1] at U
       have HU := hide U
       clear U
       go_wp2_with fail
       refine (HU.out _ (HAT.out _ hB).1).mono ?_
       rintro e W ⟨rfl, hb⟩
       clear y0 y1 y2 y3 y4 z0 z1 z2 z3 z4 z5 z6 z7 z8 x0 x1 x2 x3 x4 x5 x6 x7 x8
       replace hB := Below.trans hB (Below.mono hb (Nat.le_trans HS0.out (Nat.le_of_lt (Blk.lt hxx))))
       replace hn := hn.below hb hn.lt
       replace ht := Blk.below ht hb (Blk.lt ht)
       replace hbb := hbb.below hb hbb.lt
       replace hxx := hxx.below hb hxx.lt
       replace HV := hide (ItV.below (Hid.out HV) hb)
       replace HVX := hide (ItV.below (Hid.out HVX) hb)
       replace hit1 := IterOf.below hit1 hb (MapOf.lt (IterOf.map_ hit1)) (IterOf.lt hit1)
       clear hb
       obtain ⟨y0, y1, y2, y3, y4⟩ := hn.all5
       obtain ⟨z0, z1, z2, z3, z4, z5, z6, z7, z8⟩ := hbb.all9
       obtain ⟨x0, x1, x2, x3, x4, x5, x6, x7, x8⟩ := hxx.all9
       clear h1 h2 hu HU
       go_wp2_with fail
       refine (clear_no x.length n.length A2 c2 x.faults _ (by have := HXO.out.l; omega) (by have := HXO.out.n; omega) HVX.out.slc hcl).mono ?_
       rintro e W ⟨rfl, hb⟩
       clear y0 y1 y2 y3 y4 z0 z1 z2 z3 z4 z5 z6 z7 z8 x0 x1 x2 x3 x4 x5 x6 x7 x8
       replace hB := Below.trans hB (Below.mono hb (Nat.le_trans HS0.out (Nat.le_of_lt (Blk.lt hxx))))
       replace hn := hn.below hb hn.lt
       replace ht := Blk.below ht hb (Blk.lt ht)
       replace hbb := hbb.below hb hbb.lt
       replace hxx := hxx.below hb hxx.lt
       replace HV := hide (ItV.below (Hid.out HV) hb)
       replace HVX := hide (ItV.below (Hid.out HVX) hb)
       replace hit1 := IterOf.below hit1 hb (MapOf.lt (IterOf.map_ hit1)) (IterOf.lt hit1)
       clear hb
       obtain ⟨y0, y1, y2, y3, y4⟩ := hn.all5
       obtain ⟨z0, z1, z2, z3, z4, z5, z6, z7, z8⟩ := hbb.all9
       obtain ⟨x0, x1, x2, x3, x4, x5, x6, x7, x8⟩ := hxx.all9
       clear hcl
       go_wp2_with fail
       clear y0 y1 y2 y3 y4 z0 z1 z2 z3 z4 z5 z6 z7 z8 x0 x1 x2 x3 x4 x5 x6 x7 x8
       go_roundw
       case rel => exact ⟨o, bs, A, c, L1 ++ L2, hit1, ⟨HBK.out.1, best_skip HI.out.ki HXI.out HCF.out (by rw [← HLE.out]; exact HBK.out.2)⟩, HLM2, hn, ht, hbb, HV, hB⟩
       case measure => rw [HMS.out, hit1.left_eq]; omega
      | some q =>
       have HCF : Hid (candF s.rules n lot day x = true) := by show _ = _; rw [HCD.out, hcl, hu, decide_eq_true h1, decide_eq_true (show n.width ≤ x.width by omega)]; rfl
       have U := fun W hXW => usable_any p s x A2 c2 day W hXW HXO.out.g HXO.out.m HD.out hu
       rw [h1] at U
       have HU := hide U
       clear U
       go_wp2_with fail
       refine (HU.out _ (HAT.out _ hB).1).mono ?_
       rintro e W ⟨rfl, hb⟩
       clear y0 y1 y2 y3 y4 z0 z1 z2 z3 z4 z5 z6 z7 z8 x0 x1 x2 x3 x4 x5 x6 x7 x8
       replace hB := Below.trans hB (Below.mono hb (Nat.le_trans HS0.out (Nat.le_of_lt (Blk.lt hxx))))
       replace hn := hn.below hb hn.lt
       replace ht := Blk.below ht hb (Blk.lt ht)
       replace hbb := hbb.below hb hbb.lt
       replace hxx := hxx.below hb hxx.lt
       replace HV := hide (ItV.below (Hid.out HV) hb)
       replace HVX := hide (ItV.below (Hid.out HVX) hb)
       replace hit1 := IterOf.below hit1 hb (MapOf.lt (IterOf.map_ hit1)) (IterOf.lt hit1)
       clear hb
       obtain ⟨y0, y1, y2, y3, y4⟩ := hn.all5
       obtain ⟨z0, z1, z2, z3, z4, z5, z6, z7, z8⟩ := hbb.all9
       obtain ⟨x0, x1, x2, x3, x4, x5, x6, x7, x8⟩ := hxx.all9
       clear h1 h2 hu HU
       go_wp2_with fail
       refine (clear_yes x.length n.length A2 c2 x.faults _ (by have := HXO.out.l; omega) (by have := HXO.out.n; omega) HVX.out.slc hcl).mono ?_
       rintro e W ⟨rfl, hb⟩
       clear y0 y1 y2 y3 y4 z0 z1 z2 z3 z4 z5 z6 z7 z8 x0 x1 x2 x3 x4 x5 x6 x7 x8
       replace hB := Below.trans hB (Below.mono hb (Nat.le_trans HS0.out (Nat.le_of_lt (Blk.lt hxx))))
       replace hn := hn.below hb hn.lt
       replace ht := Blk.below ht hb (Blk.lt ht)
       replace hbb := hbb.below hb hbb.lt
       replace hxx := hxx.below hb hxx.lt
       replace HV := hide (ItV.below (Hid.out HV) hb)
       replace HVX := hide (ItV.below (Hid.out HVX) hb)
       replace hit1 := IterOf.below hit1 hb (MapOf.lt (IterOf.map_ hit1)) (IterOf.lt hit1)
       clear hb
       obtain ⟨y0, y1, y2, y3, y4⟩ := hn.all5
       obtain ⟨z0, z1, z2, z3, z4, z5, z6, z7, z8⟩ := hbb.all9
       obtain ⟨x0, x1, x2, x3, x4, x5, x6, x7, x8⟩ := hxx.all9
       clear hcl
       cases ho : o with
       | none =>
        have hz : bs.id = 0 := by rw [HBK.out.1, ho]; rfl
        have HBN : Hid (BestOk s n lot day (L1 ++ L2) (some x)) := best_new HI.out.ki HXI.out HXK.out HCF.out (o := o) (fun b hb => by rw [ho] at hb; cases hb) (by rw [← HLE.out]; exact HBK.out.2)
        go_upto_region 8 with fail
        obtain ⟨y0, y1, y2, y3, y4⟩ := hn.all5
        obtain ⟨z0, z1, z2, z3, z4, z5, z6, z7, z8⟩ := hbb.all9
        obtain ⟨x0, x1, x2, x3, x4, x5, x6, x7, x8⟩ := hxx.all9
        go_wp2_with (refine wpList_store_blk rfl 93 _ _ rfl ↑(x, A2, c2) hbb rfl rfl (by kernel_rfl) rfl (by simp [Value.oneCell']) ?_; intro W9 hbb9 hc9)
        clear y0 y1 y2 y3 y4 z0 z1 z2 z3 z4 z5 z6 z7 z8 x0 x1 x2 x3 x4 x5 x6 x7 x8
        have hS9 : ∀ k, (fun k => k = b0 + 1 + 1) k → NoSpan W k := fun k hk => by have hk : k = b0 + 1 + 1 := hk; subst hk; exact NoSpan.blk hbb (by decide)
        have hVX9 := HVX.out.chg hc9 hS9
        have hn9 := hn.chg1 hc9 (by omega)
        have ht9 := ht.chg1 hc9 (by omega)
        have hit9 := hit1.same (hc9.block p.ri hit1.map_.lt (by have := HRI.out; omega)) (hc9.block it hit1.lt (by have := HIT.out; omega))
        have hB9 := hB.trans (hc9.below1 (B := b0) (by have := hn.lt; omega) (by omega))
        try dsimp only [Act.put]
        go_roundw
        case rel => exact ⟨some x, x, A2, c2, L1 ++ L2, hit9, ⟨rfl, HBN.out⟩, HLM2, hn9, ht9, hbb9, hVX9, hB9⟩
        case measure => rw [HMS.out, hit9.left_eq]; omega
       | some b =>
        have hz : ¬ bs.id = 0 := by
         have h1 := HBK.out.2
         rw [ho] at h1
         have h2 := (HI.out.it _ _ (look_mem HI.out.ki h1.1)).2.id
         rw [HBK.out.1, ho]; show ¬ b.id = 0
         omega
        have ebs : bs = b := by rw [HBK.out.1, ho]; rfl
        have HEB := hide ebs
        clear ebs
        have dz1 : (bs.id == 0) = false := by simpa using hz
        have dz2 : decide (bs.id = 0) = false := by simpa using hz
        obtain ⟨bf, hbf⟩ := nm_ (betF x bs)
        have HBF : Hid (decide (bf < 0) = lessS x b) := by show _ = _; rw [← hbf, betF_lt, HEB.out]
        have U := fun W => better_any x bs A2 A c2 c W
        rw [hbf] at U
        have HU := hide U
        clear U hbf
        go_wp2_with fail
        refine (HU.out _).mono ?_
        rintro e W ⟨rfl, hb⟩
        clear y0 y1 y2 y3 y4 z0 z1 z2 z3 z4 z5 z6 z7 z8 x0 x1 x2 x3 x4 x5 x6 x7 x8
        replace hB := Below.trans hB (Below.mono hb (Nat.le_trans HS0.out (Nat.le_of_lt (Blk.lt hxx))))
        replace hn := hn.below hb hn.lt
        replace ht := Blk.below ht hb (Blk.lt ht)
        replace hbb := hbb.below hb hbb.lt
        replace hxx := hxx.below hb hxx.lt
        replace HV := hide (ItV.below (Hid.out HV) hb)
        replace HVX := hide (ItV.below (Hid.out HVX) hb)
        replace hit1 := IterOf.below hit1 hb (MapOf.lt (IterOf.map_ hit1)) (IterOf.lt hit1)
        clear hb
        obtain ⟨y0, y1, y2, y3, y4⟩ := hn.all5
        obtain ⟨z0, z1, z2, z3, z4, z5, z6, z7, z8⟩ := hbb.all9
        obtain ⟨x0, x1, x2, x3, x4, x5, x6, x7, x8⟩ := hxx.all9
        clear HU
        by_cases hlt : bf < 0
        ·have HBN : Hid (BestOk s n lot day (L1 ++ L2) (some x)) := best_new HI.out.ki HXI.out HXK.out HCF.out (o := o) (fun b' hb => by rw [ho] at hb; injection hb with hb; rw [← hb, ← HBF.out]; exact decide_eq_true hlt) (by rw [← HLE.out]; exact HBK.out.2)
         go_upto_region 8 with fail
         clear hlt
         obtain ⟨y0, y1, y2, y3, y4⟩ := hn.all5
         obtain ⟨z0, z1, z2, z3, z4, z5, z6, z7, z8⟩ := hbb.all9
         obtain ⟨x0, x1, x2, x3, x4, x5, x6, x7, x8⟩ := hxx.all9
         go_wp2_with (refine wpList_store_blk rfl 93 _ _ rfl ↑(x, A2, c2) hbb rfl rfl (by kernel_rfl) rfl (by simp [Value.oneCell']) ?_; intro W9 hbb9 hc9)
         clear y0 y1 y2 y3 y4 z0 z1 z2 z3 z4 z5 z6 z7 z8 x0 x1 x2 x3 x4 x5 x6 x7 x8
         have hS9 : ∀ k, (fun k => k = b0 + 1 + 1) k → NoSpan W k := fun k hk => by have hk : k = b0 + 1 + 1 := hk; subst hk; exact NoSpan.blk hbb (by decide)
         have hVX9 := HVX.out.chg hc9 hS9
         have hn9 := hn.chg1 hc9 (by omega)
         have ht9 := ht.chg1 hc9 (by omega)
         have hit9 := hit1.same (hc9.block p.ri hit1.map_.lt (by have := HRI.out; omega)) (hc9.block it hit1.lt (by have := HIT.out; omega))
         have hB9 := hB.trans (hc9.below1 (B := b0) (by have := hn.lt; omega) (by omega))
         try dsimp only [Act.put]
         go_roundw
         case rel => exact ⟨some x, x, A2, c2, L1 ++ L2, hit9, ⟨rfl, HBN.out⟩, HLM2, hn9, ht9, hbb9, hVX9, hB9⟩
         case measure => rw [HMS.out, hit9.left_eq]; omega
        ·have HBN : Hid (BestOk s n lot day (L1 ++ L2) (some b)) := best_keep HI.out.ki HXI.out (by rw [← HBF.out]; exact decide_eq_false hlt) (by rw [← HLE.out, ← ho]; exact HBK.out.2)
         go_wp2_with fail
         clear hlt hz
         clear y0 y1 y2 y3 y4 z0 z1 z2 z3 z4 z5 z6 z7 z8 x0 x1 x2 x3 x4 x5 x6 x7 x8
         go_roundw
         case rel => exact ⟨some b, bs, A, c, L1 ++ L2, hit1, ⟨HEB.out, HBN.out⟩, HLM2, hn, ht, hbb, HV, hB⟩
         case measure => rw [HMS.out, hit1.left_eq]; omega
   ·have HCF : Hid (candF s.rules n lot day x = false) := by show _ = _; rw [HCD.out, decide_eq_false h1]; simp
    go_wp2_with fail
    clear h1
    clear y0 y1 y2 y3 y4 z0 z1 z2 z3 z4 z5 z6 z7 z8 x0 x1 x2 x3 x4 x5 x6 x7 x8
    go_roundw
    case rel => exact ⟨o, bs, A, c, L1 ++ L2, hit1, ⟨HBK.out.1, best_skip HI.out.ki HXI.out HCF.out (by rw [← HLE.out]; exact HBK.out.2)⟩, HLM2, hn, ht, hbb, HV, hB⟩
    case measure => rw [HMS.out, hit1.left_eq]; omega
end Go.Proofs.YtehlbomkldnalaaGreat

/- cutAll: the walk. -/
namespace Go.Proofs.YtehlbomkldnalaaGreat
open Go Go.RowKit
theorem Own.overS {α : Type} {w w' : World} {base : Nat} {e : TypeId} {sz : Nat} {f : α → List Value} {v : Value} {l : List α} {S : Nat → Prop} (h : Own w base e sz f v l) (hc : Chg S w w') (hS : ∀ k, S k → k < base) : Own w' base e sz f v l :=
 h.chgN hc fun k hk hs => by have h1 := (World.ownsRow.lt h k hk).1; have := hS k hs; omega
theorem StA.grownOwn {α : Type} {w w' : World} {p : Fp} {s : SS} {base : Nat} {e : TypeId} {sz : Nat} {f : α → List Value} {v : Value} {l : List α} (h : StA w p s) (hO : Own w base e sz f v l) (he : e ≠ 57) (hS : ∀ k, p.has k → k < base) (hg : w.grownBy w' v.ownBlock) : StA w' p s :=
 h.far (S := fun b => v.ownBlock = some b) (.of_grown' hg fun _ h => h) fun b hb => ⟨fun hp => by have h1 := (World.ownsRow.lt hO b hb).1; have := hS b hp; omega, NoSpan.own hO he hb⟩
theorem cutOne_none (p : Fp) (s : SS) (n : Need) (lot day : Int) (w : World) (hX : StA w p s) (hI : Inv s) (hF : Few s) (hn : NeedOk n) (hd : 0 ≤ day ∧ day ≤ 100000) (hc : cutOneF s n lot day = none) :
  Calls Tryz.prog 77 #[.pointer (some ⟨p.g, 0, none⟩), .agg ↑n, lot, day] w fun e w' => e = .returned (.tuple #[.agg zPiece, .bool false]) ∧ Chg p.has w w' := by
 refine (cutOne_any p s n lot day w hX hI hF hn hd).mono ?_
 intro e w' h
 unfold CutPost at h
 rw [hc] at h
 exact ⟨h.1, h.2.2⟩
theorem cutOne_some (p : Fp) (s : SS) (n : Need) (lot day : Int) (w : World) (hX : StA w p s) (hI : Inv s) (hF : Few s) (hn : NeedOk n) (hd : 0 ≤ day ∧ day ≤ 100000) {s' : SS} {q : Piece} (hc : cutOneF s n lot day = some (s', q)) :
  Calls Tryz.prog 77 #[.pointer (some ⟨p.g, 0, none⟩), .agg ↑n, lot, day] w fun e w' => e = .returned (.tuple #[.agg ↑q, .bool true]) ∧ StA w' p s' ∧ Chg p.has w w' := by
 refine (cutOne_any p s n lot day w hX hI hF hn hd).mono ?_
 intro e w' h
 unfold CutPost at h
 rw [hc] at h
 exact h
def CutAllPost (p : Fp) (s : SS) (n : Need) (lot day : Int) (w : World) (e : Ending) (w' : World) : Prop := match cutAllF n lot day n.count.toNat s with
 | none => e = .returned (.tuple #[.slice none 0 0, .bool false]) ∧ Chg p.has w w'
 | some (s', l) => ∃ A c, e = .returned (.tuple #[.slice A l.length c, .bool true]) ∧ Slc Piece.enc 8 w' w'.heap.size A l ∧ (∀ ad, A = some ad → w.heap.size ≤ ad.block) ∧ StA w' p s' ∧ Chg p.has w w'
set_option maxRecDepth 100000 in
set_option maxHeartbeats 4000000 in
theorem cutAll_any (p : Fp) (s : SS) (n : Need) (lot day : Int) (w : World) (hX : StA w p s) (hI : Inv s) (hF : Room s n.count.toNat) (hn : NeedOk n) (hd : 0 ≤ day ∧ day ≤ 100000) :
  Calls Tryz.prog 55 #[.pointer (some ⟨p.g, 0, none⟩), .agg ↑n, lot, day] w (CutAllPost p s n lot day w) := by
 have HI := hide hI
 have HF := hide hF
 have HN := hide hn
 clear hn
 have HD := hide hd
 have hn := Blk.new w 45 ↑n
 have hal := (Below.refl w.heap.size w).alloc (Nat.le_refl _) (.cells ↑n 45)
 have HS : Hid (∀ k, p.has k → k < w.heap.size + 1) := fun k hk => by have := hX.lt hk; omega
 replace hX := hX.below hal
 have hC : Chg p.has w (w.alloc (.cells ↑n 45)) := .of_below hal
 clear hI hF hd hal
 go_enter Tryz.func55, Tryz.ntmps55
 have y4 := hn.cell_ 4 (v := n.count) rfl
 go_upto_region 3 with fail
 clear y4
 have hsz : (w.alloc (.cells ↑n 45)).heap.size = w.heap.size + 1 := by simp
 generalize w.alloc (.cells ↑n 45) = W at *
 obtain ⟨b0, hb0⟩ := nm_ w.heap.size
 have HB0 := hide hb0
 rw [hb0] at hn HS hsz ⊢
 clear hb0
 have hsz : b0 + 1 ≤ W.heap.size := by omega
 go_loopw [10, 15] (fun v z wr => ∃ (i : Nat) (si : SS) (ls : List Piece), z = .int .i64 i ∧ (i : Int) ≤ n.count ∧ Hid (cutAllF n lot day i s = some (si, ls)) ∧ ls.length = i ∧ Own wr (b0 + 1) 96 8 Piece.enc v ls ∧ Blk wr b0 45 ↑n ∧ StA wr p si ∧ Chg p.has w wr ∧ b0 + 1 ≤ wr.heap.size) (fun _ z _ => n.count.toNat - (intOf z).toNat)
 case atStart => exact ⟨0, s, [], rfl, by have := HN.out.c; omega, rfl, rfl, Own.nil_, hn, hX, hC, hsz⟩
 case round =>
  clear hn hX hC hsz
  obtain ⟨W, rfl⟩ := is_ wr
  obtain ⟨i, si, ls, rfl, hi, HA, hll, hO, hn, hX, hC, hsz⟩ := hrel
  by_cases hlt : (i : Int) < n.count
  ·have hi50 : i < 50 := by have := HN.out.c; omega
   have hII := cutAll_inv HN.out HI.out HA.out
   have HII := hide hII.1
   have hRM : Room si (n.count.toNat - i) := room_all (k := i) (by rw [show n.count.toNat - i + i = n.count.toNat by omega]; exact HF.out) HA.out
   have HRM := hide hRM.few
   clear hII hRM
   obtain ⟨y0, y1, y2, y3, y4⟩ := hn.all5
   cases hc : cutOneF si n lot day with
   | none =>
    have HE : Hid (cutAllF n lot day n.count.toNat s = none) := all_no (all_stop HA.out hc) (by omega)
    have HC1 := hide hc
    clear hc
    go_wp2_with fail
    refine (cutOne_none p si n lot day W hX HII.out HRM.out HN.out HD.out HC1.out).mono ?_
    rintro e W2 ⟨rfl, hc2⟩
    have hC2 := hC.trans hc2
    clear y0 y1 y2 y3 y4 hn hX hO hC
    go_wp2_with fail
    go_ret2
    unfold CutAllPost
    rw [HE.out]
    exact ⟨rfl, hC2.alloc _⟩
   | some q9 =>
    obtain ⟨s2, q⟩ := q9
    have HE : Hid (cutAllF n lot day (i + 1) s = some (s2, ls ++ [q])) := all_next HA.out hc
    have HC1 := hide hc
    clear hc
    go_wp2_with fail
    refine (cutOne_some p si n lot day W hX HII.out HRM.out HN.out HD.out HC1.out).mono ?_
    rintro e W2 ⟨rfl, hX2, hc2⟩
    have hC2 := hC.trans hc2
    have hn2 := hn.chgS hX hc2 (by decide)
    have hO2 := hO.overS hc2 HS.out
    have hsz2 : b0 + 1 ≤ W2.heap.size := Nat.le_trans hsz hc2.size
    clear y0 y1 y2 y3 y4 hn hX hO hC hc2 hsz HC1
    have hal := (Below.refl W2.heap.size W2).alloc (Nat.le_refl _) (.cells ↑q 96)
    have hbx := Blk.new W2 96 ↑q
    replace hX2 := hX2.below hal
    replace hn2 := hn2.below hal hn2.lt
    replace hO2 := hO2.below hal
    replace hC2 := hC2.trans (.of_below hal)
    replace hsz2 := Nat.le_trans hsz2 hal.size
    clear hal
    go_upto_region 5 with fail
    generalize W2.alloc (.cells ↑q 96) = W3 at *
    generalize W2.heap.size = bx at *
    obtain ⟨y0, y1, y2, y3, y4, y5, y6, y7⟩ := hbx.all8
    have ei := wsuc i (by omega)
    go_wp2_with (at_builtin; refine wpList_app_own (base := b0 + 1) (f := Piece.enc) (ys := [q]) _ _ rfl rfl et_piece (hO2.alloc _) rfl rfl ((Blk.new W3 96 q.enc.toArray).slc1 rfl) rfl pce_len pce_one (by simp <;> omega) (by simp <;> omega) ?_; intro v6 W6 hO6 hb6 hg6)
    have hal := (Below.refl W3.heap.size W3).alloc (Nat.le_refl _) (.cells q.enc.toArray 96)
    have hX6 := (hX2.below hal).grownOwn (hO2.alloc _) (by decide) HS.out hg6
    have hn6 := (hn2.below hal hn2.lt).below hb6 (by omega)
    have hC6 : Chg p.has w W6 := (hC2.trans (.of_below hal)).trans' (Chg.of_below' (S := fun k => b0 + 1 ≤ k) hb6 fun k hk _ => hk) fun k hk he => by have := HB0.out; omega
    have hsz6 : b0 + 1 ≤ W6.heap.size := Nat.le_trans (Nat.le_trans hsz2 hal.size) hb6.size
    clear y0 y1 y2 y3 y4 y5 y6 y7 hbx hX2 hn2 hO2 hC2 hsz2 hal hb6 hg6
    go_roundw
    case rel => exact ⟨i + 1, s2, ls ++ [q], by go_num, by omega, HE, by simp [hll], hO6, hn6, hX6, hC6, hsz6⟩
    case measure => simp [intOf]; omega
  ·have hie : (i : Int) = n.count := by omega
   have HE : Hid (cutAllF n lot day n.count.toNat s = some (si, ls)) := by show _ = _; rw [show n.count.toNat = i by omega]; exact HA.out
   clear hie
   obtain ⟨A, c, rfl, hsl⟩ := hO.form pce_len
   have HOF := hide (hO.from_ (b0 := b0) (by omega))
   go_wp2_with fail
   go_ret2
   unfold CutAllPost
   rw [HE.out]
   exact ⟨A, c, by rw [hll]; rfl, hsl, fun ad h => by rw [HB0.out]; exact HOF.out ad h, hX, hC⟩
end Go.Proofs.YtehlbomkldnalaaGreat
