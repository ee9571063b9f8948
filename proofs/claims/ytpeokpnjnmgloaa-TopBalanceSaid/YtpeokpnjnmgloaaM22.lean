/- Parts of the proofs of this seat: CutOne. Each part says what it proves; no condition beyond those stated there. -/
import Derived.WalkMore
import Derived.Test.YtpeokpnjnmgloaaM10
import Derived.Test.YtpeokpnjnmgloaaM12
import Derived.Test.YtpeokpnjnmgloaaM13
import Derived.Test.YtpeokpnjnmgloaaM14
import Derived.Test.YtpeokpnjnmgloaaM15

/- cutOne: the walk. -/
namespace Go.Proofs.Ytpeokpnjnmgloaa
open Go Go.RowKit
abbrev zPiece : Array Value := #[.int .i64 0, .int .i64 0, .int .i64 0, .int .i64 0, .int .i64 0, .int .i64 0, .int .i64 0, .int .i64 0]
def CutPost (p : Fp) (s : SS) (n : Need) (lot day : Int) (w : World) (e : Ending) (w' : World) : Prop := match cutOneF s n lot day with
  | none => e = .returned (.tuple #[.agg zPiece, .bool false]) ∧ StA w' p s ∧ Chg p.has w w'
  | some (s', q) => e = .returned (.tuple #[q.val, .bool true]) ∧ StA w' p s' ∧ Chg p.has w w'
theorem clear_no (l n : Int) (A : Option Addr) (c : Nat) (fs : List Pt) (w : World) (hl : l ≤ 9223372036854775807) (hlen : fs.length ≤ 100000) (hS : Slc Pt.enc 2 w w.heap.size A fs) (h : clear l fs n = none) :
    Calls Try.prog 13 #[.int .i64 l, .slice A fs.length c, .int .i64 n] w fun e w' => e = .returned (.tuple #[.int .i64 0, .bool false]) ∧ Below w.heap.size w w' :=
  (clear_any l n A c fs w hl hlen hS).mono fun e w' ⟨he, hb⟩ => ⟨by rw [he]; unfold clearVal; rw [h]; rfl, hb⟩
theorem clear_yes (l n : Int) (A : Option Addr) (c : Nat) (fs : List Pt) (w : World) (hl : l ≤ 9223372036854775807) (hlen : fs.length ≤ 100000) (hS : Slc Pt.enc 2 w w.heap.size A fs) {q : Int} (h : clear l fs n = some q) :
    Calls Try.prog 13 #[.int .i64 l, .slice A fs.length c, .int .i64 n] w fun e w' => e = .returned (.tuple #[.int .i64 q, .bool true]) ∧ Below w.heap.size w w' :=
  (clear_any l n A c fs w hl hlen hS).mono fun e w' ⟨he, hb⟩ => ⟨by rw [he]; unfold clearVal; rw [h]; rfl, hb⟩
theorem ItV.slc {w : World} {x : Sheet} {A : Option Addr} {c : Nat} (h : ItV w x (x.valAt A c)) : Slc Pt.enc 2 w w.heap.size A x.faults := by
  obtain ⟨A', c', h1, h2, h3⟩ := h
  unfold Sheet.valAt at h1
  injection h1 with h4
  have h5 := congrArg (fun (a : Array Value) => a[8]?) h4
  simp at h5
  obtain ⟨rfl, rfl⟩ := h5
  exact h2
theorem IterOf.noSpan {w : World} {it r : Nat} {M L : List (Int × Value)} (h : IterOf w it r M L) : NoSpan w it := fun cs fr he => by
  obtain ⟨es, clock, seen, last, _, _, _, _, h5, _⟩ := h
  rw [h5] at he; cases he
theorem run_piece (i r l g c wi le : Int) (w : World) : (Instr.build 79 #[(0, .int .i64 i), (1, .int .i64 r), (2, .int .i64 l), (3, .int .i64 g), (4, .int .i64 c), (5, .int .i64 wi), (6, .int .i64 le)]).run Try.prog w = .ok (.agg #[.int .i64 i, .int .i64 r, .int .i64 l, .int .i64 g, .int .i64 c, .int .i64 wi, .int .i64 le, .int .i64 0]) w := run_build w _ _ _ (by kernel_rfl)
set_option maxRecDepth 100000 in
set_option maxHeartbeats 8000000 in
theorem cutOne_any (p : Fp) (s : SS) (n : Need) (lot day : Int) (w : World) (hX : StA w p s) (hI : Inv s) (hF : Few s) (hn : NeedOk n) (hd : 0 ≤ day ∧ day ≤ 100000) :
    Calls Try.prog 47 #[.pointer (some ⟨p.g, 0, none⟩), .agg #[.int .i64 n.grade, .int .i64 n.colour, .int .i64 n.width, .int .i64 n.length, .int .i64 n.count], .int .i64 lot, .int .i64 day] w (CutPost p s n lot day w) := by
  have HI := hide hI
  have HF := hide hF
  have HN := hide hn
  clear hn
  have HD := hide hd
  have HX := hide hX
  have hn := ((Blk.new w 38 #[.int .i64 n.grade, .int .i64 n.colour, .int .i64 n.width, .int .i64 n.length, .int .i64 n.count]).alloc (.cells zPiece 79)).alloc zeroSheet
  have ht := (Blk.new (w.alloc (.cells #[.int .i64 n.grade, .int .i64 n.colour, .int .i64 n.width, .int .i64 n.length, .int .i64 n.count] 38)) 79 zPiece).alloc zeroSheet
  have hbb := Blk.new ((w.alloc (.cells #[.int .i64 n.grade, .int .i64 n.colour, .int .i64 n.width, .int .i64 n.length, .int .i64 n.count] 38)).alloc (.cells zPiece 79)) 65 #[.int .i64 0, .int .i64 0, .int .i64 0, .int .i64 0, .int .i64 0, .int .i64 0, .int .i64 0, .int .i64 0, .slice none 0 0]
  have hB := (((Below.refl w.heap.size w).alloc (Nat.le_refl _) (.cells #[.int .i64 n.grade, .int .i64 n.colour, .int .i64 n.width, .int .i64 n.length, .int .i64 n.count] 38)).alloc (by simp) (.cells zPiece 79)).alloc (by simp; omega) zeroSheet
  rw [show (w.alloc (.cells #[.int .i64 n.grade, .int .i64 n.colour, .int .i64 n.width, .int .i64 n.length, .int .i64 n.count] 38)).heap.size = w.heap.size + 1 by simp] at ht
  rw [show ((w.alloc (.cells #[.int .i64 n.grade, .int .i64 n.colour, .int .i64 n.width, .int .i64 n.length, .int .i64 n.count] 38)).alloc (.cells zPiece 79)).heap.size = w.heap.size + 1 + 1 by simp] at hbb
  clear hI hF hd hX
  go_enter Try.func47, Try.ntmps47
  go_upto_region 2 with fail
  generalize ((w.alloc (.cells #[.int .i64 n.grade, .int .i64 n.colour, .int .i64 n.width, .int .i64 n.length, .int .i64 n.count] 38)).alloc (.cells zPiece 79)).alloc zeroSheet = W at *
  obtain ⟨b0, hb0⟩ : ∃ b, w.heap.size = b := ⟨_, rfl⟩
  have HB0 := hide hb0
  obtain ⟨MI, hMI, hZ⟩ := HX.out.items
  have HZ := hide hZ
  have HMI := hide hMI
  have HAT : Hid (∀ W, Below b0 w W → StA W p s ∧ MapOf W p.ri MI ∧ Zip (ItV W) s.items MI) := by
    show ∀ W, Below b0 w W → _
    intro W hb
    rw [← hb0] at hb
    exact ⟨HX.out.below hb, HMI.out.below hb HMI.out.lt, HZ.out.imp fun x v hv => hv.below hb⟩
  have HRI : Hid (p.ri < b0 ∧ p.g < b0) := by show _ ∧ _; rw [← hb0]; exact ⟨HMI.out.lt, HX.out.lt (by simp [Fp.has])⟩
  rw [hb0] at hn ht hbb hB ⊢
  clear hb0 hZ hMI
  have c6 := (HAT.out W hB).1.blk.cell_ 6 (v := .map (some p.ri)) rfl
  have hMW := (HAT.out W hB).2.1
  have hV0 := ItV.zero W
  go_wp2_with (at_range; refine wpList_range_im rfl _ _ rfl _ _ Try.underlying54 p.ri rfl hMW ?_; intro it W0 hit hbl hle)
  go_frame
  have hsz := hB.size
  rw [HB0.out] at hsz
  replace hn := hn.below hbl hn.lt
  replace ht := ht.below hbl ht.lt
  have hitb := hbb.lt
  replace hbb := hbb.below hbl hbb.lt
  replace hV0 := hV0.below hbl
  replace hB := hB.trans (hbl.mono hsz)
  have HIT : Hid (b0 + 2 < it) := by show _ < _; omega
  clear c6 hMW hbl hle hsz hitb
  go_loopw [27] (fun _ wr => ∃ (o : Option Sheet) (bs : Sheet) (A : Option Addr) (c : Nat) (L : List (Int × Value)), IterOf wr it p.ri MI L ∧ Hid (bs = o.getD zS ∧ BestOk s n lot day L o) ∧ Hid (∀ q ∈ L, q ∈ MI) ∧ Blk wr b0 38 #[.int .i64 n.grade, .int .i64 n.colour, .int .i64 n.width, .int .i64 n.length, .int .i64 n.count] ∧ Blk wr (b0 + 1) 79 zPiece ∧
      Blk wr (b0 + 1 + 1) 65 #[.int .i64 bs.id, .int .i64 bs.root, .int .i64 bs.grade, .int .i64 bs.colour, .int .i64 bs.lot, .int .i64 bs.made, .int .i64 bs.width, .int .i64 bs.length, .slice A bs.faults.length c] ∧ Hid (ItV wr bs (bs.valAt A c)) ∧ Below b0 w wr) (fun _ wr => leftN wr it)
  case atStart => exact ⟨none, zS, none, 0, MI, hit, ⟨rfl, best_start HZ.out⟩, fun q hq => hq, hn, ht, hbb, hV0, hB⟩
  case round =>
    clear hn ht hbb hB hit hV0
    obtain ⟨W, rfl⟩ : ∃ X : World, X = wr := ⟨_, rfl⟩
    obtain ⟨o, bs, A, c, L, hit, HBK, HLM, hn, ht, hbb, HV, hB⟩ := hrel
    go_wp2_with (at_next; refine wpList_next_im rfl _ rfl it p.ri rfl hit ?_ ?_)
    · intro hLe
      have hch : Chosen s n lot day o := best_end (by rw [← hLe]; exact HBK.out.2)
      have hce := chosen_eq HI.out.keyed hch
      have HCE := hide hce
      have HCH := hide hch
      clear hLe hce hch hit HLM
      have y0 := hn.cell_ 0 rfl
      have y1 := hn.cell_ 1 rfl
      have y2 := hn.cell_ 2 rfl
      have y3 := hn.cell_ 3 rfl
      have y4 := hn.cell_ 4 rfl
      have t0 := ht.cell_ 0 rfl
      have t1 := ht.cell_ 1 rfl
      have t2 := ht.cell_ 2 rfl
      have t3 := ht.cell_ 3 rfl
      have t4 := ht.cell_ 4 rfl
      have t5 := ht.cell_ 5 rfl
      have t6 := ht.cell_ 6 rfl
      have t7 := ht.cell_ 7 rfl
      have z0 := hbb.cell_ 0 rfl
      have z1 := hbb.cell_ 1 rfl
      have z2 := hbb.cell_ 2 rfl
      have z3 := hbb.cell_ 3 rfl
      have z4 := hbb.cell_ 4 rfl
      have z5 := hbb.cell_ 5 rfl
      have z6 := hbb.cell_ 6 rfl
      have z7 := hbb.cell_ 7 rfl
      have z8 := hbb.cell_ 8 rfl
      cases ho : o with
      | none =>
        have hz : bs.id = 0 := by rw [HBK.out.1, ho]; rfl
        have HEN : Hid (cutOneF s n lot day = none) := by show _ = _; unfold cutOneF; rw [HCE.out, ho]
        go_wp2_with (refine wpList_store_blk rfl 79 _ _ rfl zPiece ht rfl rfl (by kernel_rfl) rfl (by simp [Value.oneCell']) ?_; intro W9 ht9 hc9; have q0 := ht9.cell_ 0 rfl; have q1 := ht9.cell_ 1 rfl; have q2 := ht9.cell_ 2 rfl; have q3 := ht9.cell_ 3 rfl; have q4 := ht9.cell_ 4 rfl; have q5 := ht9.cell_ 5 rfl; have q6 := ht9.cell_ 6 rfl; have q7 := ht9.cell_ 7 rfl)
        have hB9 := hB.trans (hc9.below1 (B := b0) (by have := hn.lt; omega) (by omega))
        refine bodyPost_ret (v := .tuple #[.agg zPiece, .bool false]) (by simp [results, Try.results47, go_sem, q0, q1, q2, q3, q4, q5, q6, q7]) rfl ?_
        unfold CutPost
        rw [HEN.out]
        exact ⟨rfl, (HAT.out _ hB9).1, .of_below (by rw [HB0.out]; exact hB9)⟩
      | some b =>
        have hz : ¬ bs.id = 0 := by
          have h1 := HBK.out.2
          rw [ho] at h1
          have h2 := (HI.out.it _ _ (look_mem HI.out.ki h1.1)).2.id
          rw [HBK.out.1, ho]; show ¬ b.id = 0
          omega
        have hbe : bs = b := by rw [HBK.out.1, ho]; rfl
        rw [ho] at HCE HCH
        clear HBK
        subst hbe
        obtain ⟨hbi, hbc, hbr⟩ := HCH.out
        clear hbr
        have HBL := hide (look_mem HI.out.ki hbi)
        have HBO := hide (HI.out.it _ _ HBL.out).2
        have hcf : candF s.rules n lot day bs = (decide (bs.lot = lot) && decide (n.width ≤ bs.width) && useF s.rules bs day && (clear bs.length bs.faults n.length).isSome) := rfl
        rw [hbc] at hcf
        cases hcl : clear bs.length bs.faults n.length with
        | none => rw [hcl] at hcf; simp at hcf
        | some q =>
          have hcf2 : bs.lot = lot ∧ n.width ≤ bs.width := by
            have := hcf.symm
            simp only [Bool.and_eq_true, decide_eq_true_eq] at this
            exact ⟨this.1.1.1, this.1.1.2⟩
          have HLW := hide hcf2
          have HQ := hide (clear_bd hcl)
          have HES : Hid (cutOneF s n lot day = some (cutD (cutC s n bs q) n lot bs, pieceF (cutC s n bs q) n lot bs)) := by show _ = _; unfold cutOneF; rw [HCE.out]; dsimp only; rw [hcl]; rfl
          clear hbi hbc hcf hcf2 HCE HCH
          go_wp2_with fail
          refine (clear_yes bs.length n.length A c bs.faults _ (by have := HBO.out.l; omega) (by have := HBO.out.n; omega) HV.out.slc hcl).mono ?_
          rintro e W ⟨rfl, hb⟩
          clear y0 y1 y2 y3 y4 t0 t1 t2 t3 t4 t5 t6 t7 z0 z1 z2 z3 z4 z5 z6 z7 z8
          replace hB := Below.trans hB (Below.mono hb (Nat.le_of_lt (Blk.lt hn)))
          replace hn := hn.below hb hn.lt
          replace ht := ht.below hb ht.lt
          replace hbb := hbb.below hb hbb.lt
          replace HV := hide (ItV.below (Hid.out HV) hb)
          clear hb
          have y0 := hn.cell_ 0 rfl
          have y1 := hn.cell_ 1 rfl
          have y2 := hn.cell_ 2 rfl
          have y3 := hn.cell_ 3 rfl
          have y4 := hn.cell_ 4 rfl
          have t0 := ht.cell_ 0 rfl
          have t1 := ht.cell_ 1 rfl
          have t2 := ht.cell_ 2 rfl
          have t3 := ht.cell_ 3 rfl
          have t4 := ht.cell_ 4 rfl
          have t5 := ht.cell_ 5 rfl
          have t6 := ht.cell_ 6 rfl
          have t7 := ht.cell_ 7 rfl
          have z0 := hbb.cell_ 0 rfl
          have z1 := hbb.cell_ 1 rfl
          have z2 := hbb.cell_ 2 rfl
          have z3 := hbb.cell_ 3 rfl
          have z4 := hbb.cell_ 4 rfl
          have z5 := hbb.cell_ 5 rfl
          have z6 := hbb.cell_ 6 rfl
          have z7 := hbb.cell_ 7 rfl
          have z8 := hbb.cell_ 8 rfl
          clear hcl
          have e1 : IntKind.i64.wrap (q + n.length) = q + n.length := IntWalk.i64_in _ (by have := HQ.out; have := HBO.out.l; have := HN.out.l; omega)
          go_upto_region 13 with fail
          clear e1 hz
          have HLT := hide (show b0 + 1 + 1 < _ from hbb.lt)
          go_wp2_with fail
          have z_y0 := hide (fun w' (hb : Below W.heap.size W w') => Since.later hb y0)
          have z_y1 := hide (fun w' (hb : Below W.heap.size W w') => Since.later hb y1)
          have z_y2 := hide (fun w' (hb : Below W.heap.size W w') => Since.later hb y2)
          have z_y3 := hide (fun w' (hb : Below W.heap.size W w') => Since.later hb y3)
          have z_y4 := hide (fun w' (hb : Below W.heap.size W w') => Since.later hb y4)
          have z_t0 := hide (fun w' (hb : Below W.heap.size W w') => Since.later hb t0)
          have z_t1 := hide (fun w' (hb : Below W.heap.size W w') => Since.later hb t1)
          have z_t2 := hide (fun w' (hb : Below W.heap.size W w') => Since.later hb t2)
          have z_t3 := hide (fun w' (hb : Below W.heap.size W w') => Since.later hb t3)
          have z_t4 := hide (fun w' (hb : Below W.heap.size W w') => Since.later hb t4)
          have z_t5 := hide (fun w' (hb : Below W.heap.size W w') => Since.later hb t5)
          have z_t6 := hide (fun w' (hb : Below W.heap.size W w') => Since.later hb t6)
          have z_t7 := hide (fun w' (hb : Below W.heap.size W w') => Since.later hb t7)
          have z_z0 := hide (fun w' (hb : Below W.heap.size W w') => Since.later hb z0)
          have z_z1 := hide (fun w' (hb : Below W.heap.size W w') => Since.later hb z1)
          have z_z2 := hide (fun w' (hb : Below W.heap.size W w') => Since.later hb z2)
          have z_z3 := hide (fun w' (hb : Below W.heap.size W w') => Since.later hb z3)
          have z_z4 := hide (fun w' (hb : Below W.heap.size W w') => Since.later hb z4)
          have z_z5 := hide (fun w' (hb : Below W.heap.size W w') => Since.later hb z5)
          have z_z6 := hide (fun w' (hb : Below W.heap.size W w') => Since.later hb z6)
          have z_z7 := hide (fun w' (hb : Below W.heap.size W w') => Since.later hb z7)
          have z_z8 := hide (fun w' (hb : Below W.heap.size W w') => Since.later hb z8)
          have hok : FldOk W ([⟨3, .ptr, (.cells #[.int .i64 0, .int .i64 0, .int .i64 0, .int .i64 0, .int .i64 0, .int .i64 0, .int .i64 0, .int .i64 0, .slice none 0 0] 65), 6, (.cells #[.int .i64 bs.id, .int .i64 bs.root, .int .i64 bs.grade, .int .i64 bs.colour, .int .i64 bs.lot, .int .i64 bs.made, .int .i64 bs.width, .int .i64 bs.length, .slice A bs.faults.length c] 65)⟩, ⟨4, .ptr, (.cells #[.int .i64 0, .int .i64 0, .int .i64 0, .int .i64 0, .int .i64 0, .int .i64 0, .int .i64 0, .int .i64 0, .slice none 0 0] 65), 7, (.cells #[.int .i64 bs.id, .int .i64 bs.root, .int .i64 bs.grade, .int .i64 bs.colour, .int .i64 bs.lot, .int .i64 bs.made, .int .i64 bs.width, .int .i64 bs.length, .slice A bs.faults.length c] 65)⟩, ⟨5, .ptr, (.cells #[.int .i64 0, .int .i64 0, .int .i64 0, .int .i64 0, .int .i64 0, .int .i64 0, .int .i64 0, .int .i64 0, .slice none 0 0] 65), 8, (.cells #[.int .i64 bs.id, .int .i64 bs.root, .int .i64 bs.grade, .int .i64 bs.colour, .int .i64 bs.lot, .int .i64 bs.made, .int .i64 bs.width, .int .i64 bs.length, .slice A bs.faults.length c] 65)⟩]) [] := FldOk.nil_
          refine wp_region_both 9 [0, 1, 2] [3, 4, 5, 6, 7, 8] [⟨3, .ptr, (.cells #[.int .i64 0, .int .i64 0, .int .i64 0, .int .i64 0, .int .i64 0, .int .i64 0, .int .i64 0, .int .i64 0, .slice none 0 0] 65), 6, (.cells #[.int .i64 bs.id, .int .i64 bs.root, .int .i64 bs.grade, .int .i64 bs.colour, .int .i64 bs.lot, .int .i64 bs.made, .int .i64 bs.width, .int .i64 bs.length, .slice A bs.faults.length c] 65)⟩, ⟨4, .ptr, (.cells #[.int .i64 0, .int .i64 0, .int .i64 0, .int .i64 0, .int .i64 0, .int .i64 0, .int .i64 0, .int .i64 0, .slice none 0 0] 65), 7, (.cells #[.int .i64 bs.id, .int .i64 bs.root, .int .i64 bs.grade, .int .i64 bs.colour, .int .i64 bs.lot, .int .i64 bs.made, .int .i64 bs.width, .int .i64 bs.length, .slice A bs.faults.length c] 65)⟩, ⟨5, .ptr, (.cells #[.int .i64 0, .int .i64 0, .int .i64 0, .int .i64 0, .int .i64 0, .int .i64 0, .int .i64 0, .int .i64 0, .slice none 0 0] 65), 8, (.cells #[.int .i64 bs.id, .int .i64 bs.root, .int .i64 bs.grade, .int .i64 bs.colour, .int .i64 bs.lot, .int .i64 bs.made, .int .i64 bs.width, .int .i64 bs.length, .slice A bs.faults.length c] 65)⟩] [] (fun f hf => by cases hf) (by kernel_rfl) (by kernel_rfl) (by kernel_rfl) (by kernel_rfl) (by kernel_rfl) (by simp) ?_
          apply Exists.intro
          refine ⟨fun W1 hc0 => ?_, ?_⟩
          · have hb := hc0.nil_
            have y_y0 := Since.cell (z_y0.out W1 hb)
            have y_y1 := Since.cell (z_y1.out W1 hb)
            have y_y2 := Since.cell (z_y2.out W1 hb)
            have y_y3 := Since.cell (z_y3.out W1 hb)
            have y_y4 := Since.cell (z_y4.out W1 hb)
            have y_t0 := Since.cell (z_t0.out W1 hb)
            have y_t1 := Since.cell (z_t1.out W1 hb)
            have y_t2 := Since.cell (z_t2.out W1 hb)
            have y_t3 := Since.cell (z_t3.out W1 hb)
            have y_t4 := Since.cell (z_t4.out W1 hb)
            have y_t5 := Since.cell (z_t5.out W1 hb)
            have y_t6 := Since.cell (z_t6.out W1 hb)
            have y_t7 := Since.cell (z_t7.out W1 hb)
            have y_z0 := Since.cell (z_z0.out W1 hb)
            have y_z1 := Since.cell (z_z1.out W1 hb)
            have y_z2 := Since.cell (z_z2.out W1 hb)
            have y_z3 := Since.cell (z_z3.out W1 hb)
            have y_z4 := Since.cell (z_z4.out W1 hb)
            have y_z5 := Since.cell (z_z5.out W1 hb)
            have y_z6 := Since.cell (z_z6.out W1 hb)
            have y_z7 := Since.cell (z_z7.out W1 hb)
            have y_z8 := Since.cell (z_z8.out W1 hb)
            replace hB := Below.trans hB (Below.mono hb (Nat.le_of_lt (Blk.lt hn)))
            replace hn := hn.below hb hn.lt
            replace ht := ht.below hb ht.lt
            replace hbb := hbb.below hb hbb.lt
            replace HV := hide (ItV.below (Hid.out HV) hb)
            dsimp only [pick, List.filterMap, List.getElem?_cons_succ, List.getElem?_cons_zero]
            repeat (go_big_quiet_step ((fail)))
            exact wpQuiet_nil rfl
          · refine ownWalk_alloc ⟨3, .ptr, (.cells #[.int .i64 0, .int .i64 0, .int .i64 0, .int .i64 0, .int .i64 0, .int .i64 0, .int .i64 0, .int .i64 0, .slice none 0 0] 65), 6, (.cells #[.int .i64 bs.id, .int .i64 bs.root, .int .i64 bs.grade, .int .i64 bs.colour, .int .i64 bs.lot, .int .i64 bs.made, .int .i64 bs.width, .int .i64 bs.length, .slice A bs.faults.length c] 65)⟩ hok (by kernel_rfl) rfl rfl rfl rfl (fun _ => rfl) (by simp) (by simp) (fun h => absurd h (by simp)) ?_
            intro hfb
            simp only [Shape.val, List.setIfInBounds_toArray, List.set_cons_succ, List.set_cons_zero]
            refine ownWalk_alloc ⟨4, .ptr, (.cells #[.int .i64 0, .int .i64 0, .int .i64 0, .int .i64 0, .int .i64 0, .int .i64 0, .int .i64 0, .int .i64 0, .slice none 0 0] 65), 7, (.cells #[.int .i64 bs.id, .int .i64 bs.root, .int .i64 bs.grade, .int .i64 bs.colour, .int .i64 bs.lot, .int .i64 bs.made, .int .i64 bs.width, .int .i64 bs.length, .slice A bs.faults.length c] 65)⟩ hok (by kernel_rfl) rfl rfl rfl rfl (fun _ => rfl) (by simp) (by simp) (fun h => absurd h (by simp)) ?_
            intro hsb
            simp only [Shape.val, List.setIfInBounds_toArray, List.set_cons_succ, List.set_cons_zero]
            refine ownWalk_alloc ⟨5, .ptr, (.cells #[.int .i64 0, .int .i64 0, .int .i64 0, .int .i64 0, .int .i64 0, .int .i64 0, .int .i64 0, .int .i64 0, .slice none 0 0] 65), 8, (.cells #[.int .i64 bs.id, .int .i64 bs.root, .int .i64 bs.grade, .int .i64 bs.colour, .int .i64 bs.lot, .int .i64 bs.made, .int .i64 bs.width, .int .i64 bs.length, .slice A bs.faults.length c] 65)⟩ hok (by kernel_rfl) rfl rfl rfl rfl (fun _ => rfl) (by simp) (by simp) (fun h => absurd h (by simp)) ?_
            intro hrb
            simp only [Shape.val, List.setIfInBounds_toArray, List.set_cons_succ, List.set_cons_zero]
            refine ownWalk_fill (cs := #[.int .i64 0, .int .i64 0, .int .i64 0, .int .i64 0, .int .i64 0, .int .i64 0, .int .i64 0, .int .i64 0, .slice none 0 0]) (cs' := #[.int .i64 bs.id, .int .i64 bs.root, .int .i64 bs.grade, .int .i64 bs.colour, .int .i64 bs.lot, .int .i64 bs.made, .int .i64 bs.width, .int .i64 bs.length, .slice A bs.faults.length c]) ⟨3, .ptr, (.cells #[.int .i64 0, .int .i64 0, .int .i64 0, .int .i64 0, .int .i64 0, .int .i64 0, .int .i64 0, .int .i64 0, .slice none 0 0] 65), 6, (.cells #[.int .i64 bs.id, .int .i64 bs.root, .int .i64 bs.grade, .int .i64 bs.colour, .int .i64 bs.lot, .int .i64 bs.made, .int .i64 bs.width, .int .i64 bs.length, .slice A bs.faults.length c] 65)⟩ hok (by kernel_rfl) rfl rfl rfl rfl rfl rfl rfl rfl (by kernel_rfl) rfl (by simp [Value.oneCell']) rfl rfl (by simp) (by simp) (by simp) rfl ?_ (by simp)
            refine ownWalk_fill (cs := #[.int .i64 0, .int .i64 0, .int .i64 0, .int .i64 0, .int .i64 0, .int .i64 0, .int .i64 0, .int .i64 0, .slice none 0 0]) (cs' := #[.int .i64 bs.id, .int .i64 bs.root, .int .i64 bs.grade, .int .i64 bs.colour, .int .i64 bs.lot, .int .i64 bs.made, .int .i64 bs.width, .int .i64 bs.length, .slice A bs.faults.length c]) ⟨4, .ptr, (.cells #[.int .i64 0, .int .i64 0, .int .i64 0, .int .i64 0, .int .i64 0, .int .i64 0, .int .i64 0, .int .i64 0, .slice none 0 0] 65), 7, (.cells #[.int .i64 bs.id, .int .i64 bs.root, .int .i64 bs.grade, .int .i64 bs.colour, .int .i64 bs.lot, .int .i64 bs.made, .int .i64 bs.width, .int .i64 bs.length, .slice A bs.faults.length c] 65)⟩ hok (by kernel_rfl) rfl rfl rfl rfl rfl rfl rfl rfl (by kernel_rfl) rfl (by simp [Value.oneCell']) rfl rfl (by simp) (by simp) (by simp) rfl ?_ (by simp)
            refine ownWalk_fill (cs := #[.int .i64 0, .int .i64 0, .int .i64 0, .int .i64 0, .int .i64 0, .int .i64 0, .int .i64 0, .int .i64 0, .slice none 0 0]) (cs' := #[.int .i64 bs.id, .int .i64 bs.root, .int .i64 bs.grade, .int .i64 bs.colour, .int .i64 bs.lot, .int .i64 bs.made, .int .i64 bs.width, .int .i64 bs.length, .slice A bs.faults.length c]) ⟨5, .ptr, (.cells #[.int .i64 0, .int .i64 0, .int .i64 0, .int .i64 0, .int .i64 0, .int .i64 0, .int .i64 0, .int .i64 0, .slice none 0 0] 65), 8, (.cells #[.int .i64 bs.id, .int .i64 bs.root, .int .i64 bs.grade, .int .i64 bs.colour, .int .i64 bs.lot, .int .i64 bs.made, .int .i64 bs.width, .int .i64 bs.length, .slice A bs.faults.length c] 65)⟩ hok (by kernel_rfl) rfl rfl rfl rfl rfl rfl rfl rfl (by kernel_rfl) rfl (by simp [Value.oneCell']) rfl rfl (by simp) (by simp) (by simp) rfl ?_ (by simp)
            refine ownWalk_nil ?_
            intro w' hc0 hD
            have hb := hc0.nil_
            obtain ⟨hfge, hf⟩ := hD.box.get (x := ⟨3, .ptr, (.cells #[.int .i64 0, .int .i64 0, .int .i64 0, .int .i64 0, .int .i64 0, .int .i64 0, .int .i64 0, .int .i64 0, .slice none 0 0] 65), 6, (.cells #[.int .i64 bs.id, .int .i64 bs.root, .int .i64 bs.grade, .int .i64 bs.colour, .int .i64 bs.lot, .int .i64 bs.made, .int .i64 bs.width, .int .i64 bs.length, .slice A bs.faults.length c] 65)⟩) (o := (.cells #[.int .i64 bs.id, .int .i64 bs.root, .int .i64 bs.grade, .int .i64 bs.colour, .int .i64 bs.lot, .int .i64 bs.made, .int .i64 bs.width, .int .i64 bs.length, .slice A bs.faults.length c] 65)) (by simp) rfl rfl
            replace hf : Blk _ _ _ _ := hf
            obtain ⟨hsge, hs⟩ := hD.box.get (x := ⟨4, .ptr, (.cells #[.int .i64 0, .int .i64 0, .int .i64 0, .int .i64 0, .int .i64 0, .int .i64 0, .int .i64 0, .int .i64 0, .slice none 0 0] 65), 7, (.cells #[.int .i64 bs.id, .int .i64 bs.root, .int .i64 bs.grade, .int .i64 bs.colour, .int .i64 bs.lot, .int .i64 bs.made, .int .i64 bs.width, .int .i64 bs.length, .slice A bs.faults.length c] 65)⟩) (o := (.cells #[.int .i64 bs.id, .int .i64 bs.root, .int .i64 bs.grade, .int .i64 bs.colour, .int .i64 bs.lot, .int .i64 bs.made, .int .i64 bs.width, .int .i64 bs.length, .slice A bs.faults.length c] 65)) (by simp) rfl rfl
            replace hs : Blk _ _ _ _ := hs
            obtain ⟨hrge, hr⟩ := hD.box.get (x := ⟨5, .ptr, (.cells #[.int .i64 0, .int .i64 0, .int .i64 0, .int .i64 0, .int .i64 0, .int .i64 0, .int .i64 0, .int .i64 0, .slice none 0 0] 65), 8, (.cells #[.int .i64 bs.id, .int .i64 bs.root, .int .i64 bs.grade, .int .i64 bs.colour, .int .i64 bs.lot, .int .i64 bs.made, .int .i64 bs.width, .int .i64 bs.length, .slice A bs.faults.length c] 65)⟩) (o := (.cells #[.int .i64 bs.id, .int .i64 bs.root, .int .i64 bs.grade, .int .i64 bs.colour, .int .i64 bs.lot, .int .i64 bs.made, .int .i64 bs.width, .int .i64 bs.length, .slice A bs.faults.length c] 65)) (by simp) rfl rfl
            replace hr : Blk _ _ _ _ := hr
            have hf_hs := hD.box.apart (x := ⟨3, .ptr, (.cells #[.int .i64 0, .int .i64 0, .int .i64 0, .int .i64 0, .int .i64 0, .int .i64 0, .int .i64 0, .int .i64 0, .slice none 0 0] 65), 6, (.cells #[.int .i64 bs.id, .int .i64 bs.root, .int .i64 bs.grade, .int .i64 bs.colour, .int .i64 bs.lot, .int .i64 bs.made, .int .i64 bs.width, .int .i64 bs.length, .slice A bs.faults.length c] 65)⟩) (y := ⟨4, .ptr, (.cells #[.int .i64 0, .int .i64 0, .int .i64 0, .int .i64 0, .int .i64 0, .int .i64 0, .int .i64 0, .int .i64 0, .slice none 0 0] 65), 7, (.cells #[.int .i64 bs.id, .int .i64 bs.root, .int .i64 bs.grade, .int .i64 bs.colour, .int .i64 bs.lot, .int .i64 bs.made, .int .i64 bs.width, .int .i64 bs.length, .slice A bs.faults.length c] 65)⟩) (by simp) (by simp) (by simp) rfl rfl
            have hf_hr := hD.box.apart (x := ⟨3, .ptr, (.cells #[.int .i64 0, .int .i64 0, .int .i64 0, .int .i64 0, .int .i64 0, .int .i64 0, .int .i64 0, .int .i64 0, .slice none 0 0] 65), 6, (.cells #[.int .i64 bs.id, .int .i64 bs.root, .int .i64 bs.grade, .int .i64 bs.colour, .int .i64 bs.lot, .int .i64 bs.made, .int .i64 bs.width, .int .i64 bs.length, .slice A bs.faults.length c] 65)⟩) (y := ⟨5, .ptr, (.cells #[.int .i64 0, .int .i64 0, .int .i64 0, .int .i64 0, .int .i64 0, .int .i64 0, .int .i64 0, .int .i64 0, .slice none 0 0] 65), 8, (.cells #[.int .i64 bs.id, .int .i64 bs.root, .int .i64 bs.grade, .int .i64 bs.colour, .int .i64 bs.lot, .int .i64 bs.made, .int .i64 bs.width, .int .i64 bs.length, .slice A bs.faults.length c] 65)⟩) (by simp) (by simp) (by simp) rfl rfl
            have hs_hr := hD.box.apart (x := ⟨4, .ptr, (.cells #[.int .i64 0, .int .i64 0, .int .i64 0, .int .i64 0, .int .i64 0, .int .i64 0, .int .i64 0, .int .i64 0, .slice none 0 0] 65), 7, (.cells #[.int .i64 bs.id, .int .i64 bs.root, .int .i64 bs.grade, .int .i64 bs.colour, .int .i64 bs.lot, .int .i64 bs.made, .int .i64 bs.width, .int .i64 bs.length, .slice A bs.faults.length c] 65)⟩) (y := ⟨5, .ptr, (.cells #[.int .i64 0, .int .i64 0, .int .i64 0, .int .i64 0, .int .i64 0, .int .i64 0, .int .i64 0, .int .i64 0, .slice none 0 0] 65), 8, (.cells #[.int .i64 bs.id, .int .i64 bs.root, .int .i64 bs.grade, .int .i64 bs.colour, .int .i64 bs.lot, .int .i64 bs.made, .int .i64 bs.width, .int .i64 bs.length, .slice A bs.faults.length c] 65)⟩) (by simp) (by simp) (by simp) rfl rfl
            clear hD
            try simp only [List.drop_succ_cons, List.drop_zero]
            clear z_y0 z_y1 z_y2 z_y3 z_y4 z_t0 z_t1 z_t2 z_t3 z_t4 z_t5 z_t6 z_t7 z_z0 z_z1 z_z2 z_z3 z_z4 z_z5 z_z6 z_z7 z_z8
            clear y0 y1 y2 y3 y4 t0 t1 t2 t3 t4 t5 t6 t7 z0 z1 z2 z3 z4 z5 z6 z7 z8
            replace hB := Below.trans hB (Below.mono hb (Nat.le_of_lt (Blk.lt hn)))
            replace hn := hn.below hb hn.lt
            replace ht := ht.below hb ht.lt
            replace hbb := hbb.below hb hbb.lt
            replace HV := hide (ItV.below (Hid.out HV) hb)
            clear hb hok hc0
            obtain ⟨W, rfl⟩ : ∃ W : World, W = w' := ⟨_, rfl⟩
            have y0 := hn.cell_ 0 rfl
            have y1 := hn.cell_ 1 rfl
            have y2 := hn.cell_ 2 rfl
            have y3 := hn.cell_ 3 rfl
            have y4 := hn.cell_ 4 rfl
            have t0 := ht.cell_ 0 rfl
            have t1 := ht.cell_ 1 rfl
            have t2 := ht.cell_ 2 rfl
            have t3 := ht.cell_ 3 rfl
            have t4 := ht.cell_ 4 rfl
            have t5 := ht.cell_ 5 rfl
            have t6 := ht.cell_ 6 rfl
            have t7 := ht.cell_ 7 rfl
            have z0 := hbb.cell_ 0 rfl
            have z1 := hbb.cell_ 1 rfl
            have z2 := hbb.cell_ 2 rfl
            have z3 := hbb.cell_ 3 rfl
            have z4 := hbb.cell_ 4 rfl
            have z5 := hbb.cell_ 5 rfl
            have z6 := hbb.cell_ 6 rfl
            have z7 := hbb.cell_ 7 rfl
            have z8 := hbb.cell_ 8 rfl
            have f0 := hf.cell_ 0 rfl
            have f1 := hf.cell_ 1 rfl
            have f2 := hf.cell_ 2 rfl
            have f3 := hf.cell_ 3 rfl
            have f4 := hf.cell_ 4 rfl
            have f5 := hf.cell_ 5 rfl
            have f6 := hf.cell_ 6 rfl
            have f7 := hf.cell_ 7 rfl
            have f8 := hf.cell_ 8 rfl
            have s0 := hs.cell_ 0 rfl
            have s1 := hs.cell_ 1 rfl
            have s2 := hs.cell_ 2 rfl
            have s3 := hs.cell_ 3 rfl
            have s4 := hs.cell_ 4 rfl
            have s5 := hs.cell_ 5 rfl
            have s6 := hs.cell_ 6 rfl
            have s7 := hs.cell_ 7 rfl
            have s8 := hs.cell_ 8 rfl
            have r0 := hr.cell_ 0 rfl
            have r1 := hr.cell_ 1 rfl
            have r2 := hr.cell_ 2 rfl
            have r3 := hr.cell_ 3 rfl
            have r4 := hr.cell_ 4 rfl
            have r5 := hr.cell_ 5 rfl
            have r6 := hr.cell_ 6 rfl
            have r7 := hr.cell_ 7 rfl
            have r8 := hr.cell_ 8 rfl
            go_upto_region 14 with fail
            have HFB : Hid (∀ x ∈ bs.faults, -1000000 ≤ x.a ∧ x.a ≤ 1000000 ∧ -1000000 ≤ x.b ∧ x.b ≤ 1000000) := fun x hx => by
              have h1 := spans_bd HBO.out.f (Int.le_refl 0) x hx
              have h2 := HBO.out.l
              omega
            obtain ⟨fl, hfl⟩ : ∃ fl, partF bs.faults 0 q = fl := ⟨_, rfl⟩
            have HFL := hide hfl
            have P1 := fun W hS => part_any A c bs.faults 0 q W hS (by have := HBO.out.n; omega) HFB.out (by omega) (by have := HQ.out; have := HBO.out.l; have := HN.out.l; omega)
            rw [hfl] at P1
            have HP1 := hide P1
            clear hfl P1
            go_wp2_with fail
            refine (HP1.out _ HV.out.slc).mono ?_
            rintro e W ⟨Af, cf, rfl, hb, hSf, hOf⟩
            clear y0 y1 y2 y3 y4 t0 t1 t2 t3 t4 t5 t6 t7 z0 z1 z2 z3 z4 z5 z6 z7 z8 f0 f1 f2 f3 f4 f5 f6 f7 f8 s0 s1 s2 s3 s4 s5 s6 s7 s8 r0 r1 r2 r3 r4 r5 r6 r7 r8
            replace hB := Below.trans hB (Below.mono hb (Nat.le_of_lt (Blk.lt hn)))
            replace hn := hn.below hb hn.lt
            replace ht := ht.below hb ht.lt
            replace hbb := hbb.below hb hbb.lt
            replace HV := hide (ItV.below (Hid.out HV) hb)
            replace hf := hf.below hb hf.lt
            replace hs := hs.below hb hs.lt
            replace hr := hr.below hb hr.lt
            clear hb
            have y0 := hn.cell_ 0 rfl
            have y1 := hn.cell_ 1 rfl
            have y2 := hn.cell_ 2 rfl
            have y3 := hn.cell_ 3 rfl
            have y4 := hn.cell_ 4 rfl
            have t0 := ht.cell_ 0 rfl
            have t1 := ht.cell_ 1 rfl
            have t2 := ht.cell_ 2 rfl
            have t3 := ht.cell_ 3 rfl
            have t4 := ht.cell_ 4 rfl
            have t5 := ht.cell_ 5 rfl
            have t6 := ht.cell_ 6 rfl
            have t7 := ht.cell_ 7 rfl
            have z0 := hbb.cell_ 0 rfl
            have z1 := hbb.cell_ 1 rfl
            have z2 := hbb.cell_ 2 rfl
            have z3 := hbb.cell_ 3 rfl
            have z4 := hbb.cell_ 4 rfl
            have z5 := hbb.cell_ 5 rfl
            have z6 := hbb.cell_ 6 rfl
            have z7 := hbb.cell_ 7 rfl
            have z8 := hbb.cell_ 8 rfl
            have f0 := hf.cell_ 0 rfl
            have f1 := hf.cell_ 1 rfl
            have f2 := hf.cell_ 2 rfl
            have f3 := hf.cell_ 3 rfl
            have f4 := hf.cell_ 4 rfl
            have f5 := hf.cell_ 5 rfl
            have f6 := hf.cell_ 6 rfl
            have f7 := hf.cell_ 7 rfl
            have f8 := hf.cell_ 8 rfl
            have s0 := hs.cell_ 0 rfl
            have s1 := hs.cell_ 1 rfl
            have s2 := hs.cell_ 2 rfl
            have s3 := hs.cell_ 3 rfl
            have s4 := hs.cell_ 4 rfl
            have s5 := hs.cell_ 5 rfl
            have s6 := hs.cell_ 6 rfl
            have s7 := hs.cell_ 7 rfl
            have s8 := hs.cell_ 8 rfl
            have r0 := hr.cell_ 0 rfl
            have r1 := hr.cell_ 1 rfl
            have r2 := hr.cell_ 2 rfl
            have r3 := hr.cell_ 3 rfl
            have r4 := hr.cell_ 4 rfl
            have r5 := hr.cell_ 5 rfl
            have r6 := hr.cell_ 6 rfl
            have r7 := hr.cell_ 7 rfl
            have r8 := hr.cell_ 8 rfl
            clear HP1
            have HVf : Hid (ItV W { bs with length := q, faults := fl } (Sheet.valAt { bs with length := q, faults := fl } Af cf)) := ItV.made hSf hOf
            clear hSf hOf
            clear y0 y1 y2 y3 y4 t0 t1 t2 t3 t4 t5 t6 t7 z0 z1 z2 z3 z4 z5 z6 z7 z8 f0 f1 f2 f3 f4 f5 f6 f7 f8 s0 s1 s2 s3 s4 s5 s6 s7 s8 r0 r1 r2 r3 r4 r5 r6 r7 r8
            go_upto_region 15 with (first | (refine wpList_store_at rfl 3 _ _ rfl (.int .i64 q) hf rfl rfl (by kernel_rfl) rfl (by simp) rfl ?_; intro W3 hf3 hc3) | (refine wpList_store_at rfl 34 _ _ rfl (.slice Af fl.length cf) hf3 rfl rfl (by kernel_rfl) rfl (by simp) rfl ?_; intro W4 hf4 hc4))
            have hlt := HLT.out
            have hS3 : ∀ k, (fun k => k = hfb) k → NoSpan W k := fun k hk => by have hk : k = hfb := hk; subst hk; exact NoSpan.blk hf (by decide)
            have hS4 : ∀ k, (fun k => k = hfb) k → NoSpan W3 k := fun k hk => by have hk : k = hfb := hk; subst hk; exact NoSpan.blk hf3 (by decide)
            replace HV := hide ((HV.out.chg hc3 hS3).chg hc4 hS4)
            replace HVf := hide ((HVf.out.chg hc3 hS3).chg hc4 hS4)
            replace hn := (hn.chg1 hc3 (by omega)).chg1 hc4 (by omega)
            replace ht := (ht.chg1 hc3 (by omega)).chg1 hc4 (by omega)
            replace hbb := (hbb.chg1 hc3 (by omega)).chg1 hc4 (by omega)
            replace hs := (hs.chg1 hc3 (by omega)).chg1 hc4 (by omega)
            replace hr := (hr.chg1 hc3 (by omega)).chg1 hc4 (by omega)
            have hn0 := hn.lt
            have hb3 : Below b0 W W3 := hc3.below1 (by have := hf.lt; omega) (by omega)
            have hb4 : Below b0 W3 W4 := hc4.below1 (by have := hf3.lt; omega) (by omega)
            replace hB := (hB.trans hb3).trans hb4
            have hff : Blk W4 hfb 65 #[.int .i64 bs.id, .int .i64 bs.root, .int .i64 bs.grade, .int .i64 bs.colour, .int .i64 bs.lot, .int .i64 bs.made, .int .i64 bs.width, .int .i64 q, .slice Af fl.length cf] := hf4
            clear hf hf3 hf4 hS3 hS4 hc3 hc4 hb3 hb4 hn0
            obtain ⟨W, rfl⟩ : ∃ X : World, X = W4 := ⟨_, rfl⟩
            try dsimp only [Act.put]
            have e1 : IntKind.i64.wrap (bs.width - n.width) = bs.width - n.width := IntWalk.i64_in _ (by have := HBO.out.w; have := HN.out.w; omega)
            have y0 := hn.cell_ 0 rfl
            have y1 := hn.cell_ 1 rfl
            have y2 := hn.cell_ 2 rfl
            have y3 := hn.cell_ 3 rfl
            have y4 := hn.cell_ 4 rfl
            have t0 := ht.cell_ 0 rfl
            have t1 := ht.cell_ 1 rfl
            have t2 := ht.cell_ 2 rfl
            have t3 := ht.cell_ 3 rfl
            have t4 := ht.cell_ 4 rfl
            have t5 := ht.cell_ 5 rfl
            have t6 := ht.cell_ 6 rfl
            have t7 := ht.cell_ 7 rfl
            have z0 := hbb.cell_ 0 rfl
            have z1 := hbb.cell_ 1 rfl
            have z2 := hbb.cell_ 2 rfl
            have z3 := hbb.cell_ 3 rfl
            have z4 := hbb.cell_ 4 rfl
            have z5 := hbb.cell_ 5 rfl
            have z6 := hbb.cell_ 6 rfl
            have z7 := hbb.cell_ 7 rfl
            have z8 := hbb.cell_ 8 rfl
            have f0 := hff.cell_ 0 rfl
            have f1 := hff.cell_ 1 rfl
            have f2 := hff.cell_ 2 rfl
            have f3 := hff.cell_ 3 rfl
            have f4 := hff.cell_ 4 rfl
            have f5 := hff.cell_ 5 rfl
            have f6 := hff.cell_ 6 rfl
            have f7 := hff.cell_ 7 rfl
            have f8 := hff.cell_ 8 rfl
            have s0 := hs.cell_ 0 rfl
            have s1 := hs.cell_ 1 rfl
            have s2 := hs.cell_ 2 rfl
            have s3 := hs.cell_ 3 rfl
            have s4 := hs.cell_ 4 rfl
            have s5 := hs.cell_ 5 rfl
            have s6 := hs.cell_ 6 rfl
            have s7 := hs.cell_ 7 rfl
            have s8 := hs.cell_ 8 rfl
            have r0 := hr.cell_ 0 rfl
            have r1 := hr.cell_ 1 rfl
            have r2 := hr.cell_ 2 rfl
            have r3 := hr.cell_ 3 rfl
            have r4 := hr.cell_ 4 rfl
            have r5 := hr.cell_ 5 rfl
            have r6 := hr.cell_ 6 rfl
            have r7 := hr.cell_ 7 rfl
            have r8 := hr.cell_ 8 rfl
            go_wp2_with fail
            have hok : FldOk W ([]) [⟨8, hsb, 65, (#[.int .i64 bs.id, .int .i64 bs.root, .int .i64 bs.grade, .int .i64 bs.colour, .int .i64 bs.lot, .int .i64 bs.made, .int .i64 bs.width, .int .i64 bs.length, .slice A bs.faults.length c]), ((#[.int .i64 bs.id, .int .i64 bs.root, .int .i64 bs.grade, .int .i64 bs.colour, .int .i64 bs.lot, .int .i64 bs.made, .int .i64 bs.width, .int .i64 bs.length, .slice A bs.faults.length c])).setIfInBounds (6) (.int .i64 (bs.width - n.width))⟩] := FldOk.one_ hs.lt (by simp)
            refine wp_region_both 9 [0, 1, 2, 3, 4, 5, 6, 7] [8] [] [⟨8, hsb, 65, (#[.int .i64 bs.id, .int .i64 bs.root, .int .i64 bs.grade, .int .i64 bs.colour, .int .i64 bs.lot, .int .i64 bs.made, .int .i64 bs.width, .int .i64 bs.length, .slice A bs.faults.length c]), ((#[.int .i64 bs.id, .int .i64 bs.root, .int .i64 bs.grade, .int .i64 bs.colour, .int .i64 bs.lot, .int .i64 bs.made, .int .i64 bs.width, .int .i64 bs.length, .slice A bs.faults.length c])).setIfInBounds (6) (.int .i64 (bs.width - n.width))⟩] (fun f hf => by simp only [List.mem_singleton] at hf; subst hf; exact hs) (by kernel_rfl) (by kernel_rfl) (by kernel_rfl) (by kernel_rfl) (by kernel_rfl) (by simp) ?_
            apply Exists.intro
            refine ⟨fun W1 hc0 => ?_, ?_⟩
            · have hc1 : Chg (fun k => k = hsb) W W1 := hc0.one_
              replace HV := hide (ItV.chg (Hid.out HV) hc1 (fun k hk => by have hk : k = hsb := hk; subst hk; exact NoSpan.blk hs (by decide)))
              replace HVf := hide (ItV.chg (Hid.out HVf) hc1 (fun k hk => by have hk : k = hsb := hk; subst hk; exact NoSpan.blk hs (by decide)))
              replace hB := Below.trans hB (Chg.below1 hc1 (by have := hn.lt; omega) (by omega))
              replace hn := hn.chg1 hc1 (by omega)
              replace ht := ht.chg1 hc1 (by omega)
              replace hbb := hbb.chg1 hc1 (by omega)
              replace hff := hff.chg1 hc1 (by omega)
              replace hr := hr.chg1 hc1 (by omega)
              have y0 := hn.cell_ 0 rfl
              have y1 := hn.cell_ 1 rfl
              have y2 := hn.cell_ 2 rfl
              have y3 := hn.cell_ 3 rfl
              have y4 := hn.cell_ 4 rfl
              have t0 := ht.cell_ 0 rfl
              have t1 := ht.cell_ 1 rfl
              have t2 := ht.cell_ 2 rfl
              have t3 := ht.cell_ 3 rfl
              have t4 := ht.cell_ 4 rfl
              have t5 := ht.cell_ 5 rfl
              have t6 := ht.cell_ 6 rfl
              have t7 := ht.cell_ 7 rfl
              have z0 := hbb.cell_ 0 rfl
              have z1 := hbb.cell_ 1 rfl
              have z2 := hbb.cell_ 2 rfl
              have z3 := hbb.cell_ 3 rfl
              have z4 := hbb.cell_ 4 rfl
              have z5 := hbb.cell_ 5 rfl
              have z6 := hbb.cell_ 6 rfl
              have z7 := hbb.cell_ 7 rfl
              have z8 := hbb.cell_ 8 rfl
              have f0 := hff.cell_ 0 rfl
              have f1 := hff.cell_ 1 rfl
              have f2 := hff.cell_ 2 rfl
              have f3 := hff.cell_ 3 rfl
              have f4 := hff.cell_ 4 rfl
              have f5 := hff.cell_ 5 rfl
              have f6 := hff.cell_ 6 rfl
              have f7 := hff.cell_ 7 rfl
              have f8 := hff.cell_ 8 rfl
              have s0 := hs.cell_ 0 rfl
              have s1 := hs.cell_ 1 rfl
              have s2 := hs.cell_ 2 rfl
              have s3 := hs.cell_ 3 rfl
              have s4 := hs.cell_ 4 rfl
              have s5 := hs.cell_ 5 rfl
              have s6 := hs.cell_ 6 rfl
              have s7 := hs.cell_ 7 rfl
              have s8 := hs.cell_ 8 rfl
              have r0 := hr.cell_ 0 rfl
              have r1 := hr.cell_ 1 rfl
              have r2 := hr.cell_ 2 rfl
              have r3 := hr.cell_ 3 rfl
              have r4 := hr.cell_ 4 rfl
              have r5 := hr.cell_ 5 rfl
              have r6 := hr.cell_ 6 rfl
              have r7 := hr.cell_ 7 rfl
              have r8 := hr.cell_ 8 rfl
              have y_y0 := Since.cell y0
              have y_y1 := Since.cell y1
              have y_y2 := Since.cell y2
              have y_y3 := Since.cell y3
              have y_y4 := Since.cell y4
              have y_t0 := Since.cell t0
              have y_t1 := Since.cell t1
              have y_t2 := Since.cell t2
              have y_t3 := Since.cell t3
              have y_t4 := Since.cell t4
              have y_t5 := Since.cell t5
              have y_t6 := Since.cell t6
              have y_t7 := Since.cell t7
              have y_z0 := Since.cell z0
              have y_z1 := Since.cell z1
              have y_z2 := Since.cell z2
              have y_z3 := Since.cell z3
              have y_z4 := Since.cell z4
              have y_z5 := Since.cell z5
              have y_z6 := Since.cell z6
              have y_z7 := Since.cell z7
              have y_z8 := Since.cell z8
              have y_f0 := Since.cell f0
              have y_f1 := Since.cell f1
              have y_f2 := Since.cell f2
              have y_f3 := Since.cell f3
              have y_f4 := Since.cell f4
              have y_f5 := Since.cell f5
              have y_f6 := Since.cell f6
              have y_f7 := Since.cell f7
              have y_f8 := Since.cell f8
              have y_s0 := Since.cell s0
              have y_s1 := Since.cell s1
              have y_s2 := Since.cell s2
              have y_s3 := Since.cell s3
              have y_s4 := Since.cell s4
              have y_s5 := Since.cell s5
              have y_s6 := Since.cell s6
              have y_s7 := Since.cell s7
              have y_s8 := Since.cell s8
              have y_r0 := Since.cell r0
              have y_r1 := Since.cell r1
              have y_r2 := Since.cell r2
              have y_r3 := Since.cell r3
              have y_r4 := Since.cell r4
              have y_r5 := Since.cell r5
              have y_r6 := Since.cell r6
              have y_r7 := Since.cell r7
              have y_r8 := Since.cell r8
              dsimp only [pick, List.filterMap, List.getElem?_cons_succ, List.getElem?_cons_zero]
              repeat (go_big_quiet_step ((fail)))
              exact wpQuiet_nil rfl
            · refine ownWalk_put (i := 6) (v := .int .i64 (bs.width - n.width)) ⟨8, hsb, 65, (#[.int .i64 bs.id, .int .i64 bs.root, .int .i64 bs.grade, .int .i64 bs.colour, .int .i64 bs.lot, .int .i64 bs.made, .int .i64 bs.width, .int .i64 bs.length, .slice A bs.faults.length c]), ((#[.int .i64 bs.id, .int .i64 bs.root, .int .i64 bs.grade, .int .i64 bs.colour, .int .i64 bs.lot, .int .i64 bs.made, .int .i64 bs.width, .int .i64 bs.length, .slice A bs.faults.length c])).setIfInBounds (6) (.int .i64 (bs.width - n.width))⟩ hok (by simp) rfl rfl rfl rfl rfl rfl rfl (by kernel_rfl) rfl (by simp) rfl rfl (by simp) ?_
              refine ownWalk_nil ?_
              intro w' hc0 hD
              have hc1 : Chg (fun k => k = hsb) W w' := hc0.one_
              have n_hs := hD.get (f := ⟨8, hsb, 65, (#[.int .i64 bs.id, .int .i64 bs.root, .int .i64 bs.grade, .int .i64 bs.colour, .int .i64 bs.lot, .int .i64 bs.made, .int .i64 bs.width, .int .i64 bs.length, .slice A bs.faults.length c]), ((#[.int .i64 bs.id, .int .i64 bs.root, .int .i64 bs.grade, .int .i64 bs.colour, .int .i64 bs.lot, .int .i64 bs.made, .int .i64 bs.width, .int .i64 bs.length, .slice A bs.faults.length c])).setIfInBounds (6) (.int .i64 (bs.width - n.width))⟩) (by simp) rfl
              clear hD
              try simp only [List.drop_succ_cons, List.drop_zero]
              clear y0 y1 y2 y3 y4 t0 t1 t2 t3 t4 t5 t6 t7 z0 z1 z2 z3 z4 z5 z6 z7 z8 f0 f1 f2 f3 f4 f5 f6 f7 f8 s0 s1 s2 s3 s4 s5 s6 s7 s8 r0 r1 r2 r3 r4 r5 r6 r7 r8
              replace HV := hide (ItV.chg (Hid.out HV) hc1 (fun k hk => by have hk : k = hsb := hk; subst hk; exact NoSpan.blk hs (by decide)))
              replace HVf := hide (ItV.chg (Hid.out HVf) hc1 (fun k hk => by have hk : k = hsb := hk; subst hk; exact NoSpan.blk hs (by decide)))
              replace hB := Below.trans hB (Chg.below1 hc1 (by have := hn.lt; omega) (by omega))
              replace hn := hn.chg1 hc1 (by omega)
              replace ht := ht.chg1 hc1 (by omega)
              replace hbb := hbb.chg1 hc1 (by omega)
              replace hff := hff.chg1 hc1 (by omega)
              replace hr := hr.chg1 hc1 (by omega)
              clear hs
              have hs := n_hs
              clear n_hs hc1 hc0 hok
              dsimp only at hs
              obtain ⟨W, rfl⟩ : ∃ W : World, W = w' := ⟨_, rfl⟩
              have y0 := hn.cell_ 0 rfl
              have y1 := hn.cell_ 1 rfl
              have y2 := hn.cell_ 2 rfl
              have y3 := hn.cell_ 3 rfl
              have y4 := hn.cell_ 4 rfl
              have t0 := ht.cell_ 0 rfl
              have t1 := ht.cell_ 1 rfl
              have t2 := ht.cell_ 2 rfl
              have t3 := ht.cell_ 3 rfl
              have t4 := ht.cell_ 4 rfl
              have t5 := ht.cell_ 5 rfl
              have t6 := ht.cell_ 6 rfl
              have t7 := ht.cell_ 7 rfl
              have z0 := hbb.cell_ 0 rfl
              have z1 := hbb.cell_ 1 rfl
              have z2 := hbb.cell_ 2 rfl
              have z3 := hbb.cell_ 3 rfl
              have z4 := hbb.cell_ 4 rfl
              have z5 := hbb.cell_ 5 rfl
              have z6 := hbb.cell_ 6 rfl
              have z7 := hbb.cell_ 7 rfl
              have z8 := hbb.cell_ 8 rfl
              have f0 := hff.cell_ 0 rfl
              have f1 := hff.cell_ 1 rfl
              have f2 := hff.cell_ 2 rfl
              have f3 := hff.cell_ 3 rfl
              have f4 := hff.cell_ 4 rfl
              have f5 := hff.cell_ 5 rfl
              have f6 := hff.cell_ 6 rfl
              have f7 := hff.cell_ 7 rfl
              have f8 := hff.cell_ 8 rfl
              have s0 := hs.cell_ 0 rfl
              have s1 := hs.cell_ 1 rfl
              have s2 := hs.cell_ 2 rfl
              have s3 := hs.cell_ 3 rfl
              have s4 := hs.cell_ 4 rfl
              have s5 := hs.cell_ 5 rfl
              have s6 := hs.cell_ 6 rfl
              have s7 := hs.cell_ 7 rfl
              have s8 := hs.cell_ 8 rfl
              have r0 := hr.cell_ 0 rfl
              have r1 := hr.cell_ 1 rfl
              have r2 := hr.cell_ 2 rfl
              have r3 := hr.cell_ 3 rfl
              have r4 := hr.cell_ 4 rfl
              have r5 := hr.cell_ 5 rfl
              have r6 := hr.cell_ 6 rfl
              have r7 := hr.cell_ 7 rfl
              have r8 := hr.cell_ 8 rfl
              clear e1
              have hs1 : Blk W hsb 65 #[.int .i64 bs.id, .int .i64 bs.root, .int .i64 bs.grade, .int .i64 bs.colour, .int .i64 bs.lot, .int .i64 bs.made, .int .i64 (bs.width - n.width), .int .i64 bs.length, .slice A bs.faults.length c] := hs
              clear hs
              go_upto_region 16 with (first | (refine wpList_store_at rfl 3 _ _ rfl (.int .i64 n.length) hs1 rfl rfl (by kernel_rfl) rfl (by simp) rfl ?_; intro W3 hs3 hc3) | (refine wpList_store_at rfl 34 _ _ rfl (.slice none 0 0) hs3 rfl rfl (by kernel_rfl) rfl (by simp) rfl ?_; intro W4 hs4 hc4))
              have hS3 : ∀ k, (fun k => k = hsb) k → NoSpan W k := fun k hk => by have hk : k = hsb := hk; subst hk; exact NoSpan.blk hs1 (by decide)
              have hS4 : ∀ k, (fun k => k = hsb) k → NoSpan W3 k := fun k hk => by have hk : k = hsb := hk; subst hk; exact NoSpan.blk hs3 (by decide)
              replace HV := hide ((HV.out.chg hc3 hS3).chg hc4 hS4)
              replace HVf := hide ((HVf.out.chg hc3 hS3).chg hc4 hS4)
              replace hn := (hn.chg1 hc3 (by omega)).chg1 hc4 (by omega)
              replace ht := (ht.chg1 hc3 (by omega)).chg1 hc4 (by omega)
              replace hbb := (hbb.chg1 hc3 (by omega)).chg1 hc4 (by omega)
              replace hff := (hff.chg1 hc3 (by omega)).chg1 hc4 (by omega)
              replace hr := (hr.chg1 hc3 (by omega)).chg1 hc4 (by omega)
              have hn0 := hn.lt
              have hb3 : Below b0 W W3 := hc3.below1 (by have := hs1.lt; omega) (by omega)
              have hb4 : Below b0 W3 W4 := hc4.below1 (by have := hs3.lt; omega) (by omega)
              replace hB := (hB.trans hb3).trans hb4
              have hss : Blk W4 hsb 65 #[.int .i64 bs.id, .int .i64 bs.root, .int .i64 bs.grade, .int .i64 bs.colour, .int .i64 bs.lot, .int .i64 bs.made, .int .i64 (bs.width - n.width), .int .i64 n.length, .slice none 0 0] := hs4
              have HVs : Hid (ItV W4 { bs with width := bs.width - n.width, length := n.length, faults := [] } (Sheet.valAt { bs with width := bs.width - n.width, length := n.length, faults := [] } none 0)) := ⟨none, 0, rfl, fun i y hy => by simp at hy, fun h => absurd rfl h⟩
              clear hs1 hs3 hs4 hS3 hS4 hc3 hc4 hb3 hb4 hn0
              obtain ⟨W, rfl⟩ : ∃ X : World, X = W4 := ⟨_, rfl⟩
              try dsimp only [Act.put]
              go_upto_region 16 with fail
              have e2 : IntKind.i64.wrap (bs.length - (q + n.length)) = bs.length - (q + n.length) := IntWalk.i64_in _ (by have := HQ.out; have := HBO.out.l; have := HN.out.l; omega)
              obtain ⟨rl, hrl⟩ : ∃ rl, partF bs.faults (q + n.length) bs.length = rl := ⟨_, rfl⟩
              have HRL := hide hrl
              have P2 := fun W hS => part_any A c bs.faults (q + n.length) bs.length W hS (by have := HBO.out.n; omega) HFB.out (by have := HQ.out; have := HBO.out.l; have := HN.out.l; omega) (by have := HBO.out.l; omega)
              rw [hrl] at P2
              have HP2 := hide P2
              have HBB := hide hbb
              clear hrl P2 hbb
              refine wp_region_call1 (args := #[.slice A bs.faults.length c, .int .i64 (q + n.length), .int .i64 bs.length]) 11 9 [0, 1, 2, 3, 4, 5, 6, 7, 8, 10] (fun u w' => ∃ A' c', u = .slice A' rl.length c' ∧ ItV w' { bs with length := bs.length - (q + n.length), faults := rl } (Sheet.valAt { bs with length := bs.length - (q + n.length), faults := rl } A' c')) (by kernel_rfl) (by kernel_rfl) (by kernel_rfl) (by kernel_rfl) (fun u w w' hb ⟨A', c', h1, h2⟩ => ⟨A', c', h1, h2.below hb⟩) rfl rfl rfl (fun _ _ => rfl) ?_
              apply Exists.intro
              refine ⟨fun W1 hc => ?_, ?_⟩
              · have hb1 := HBB.out.below hc HBB.out.lt
                have z7 := Since.cell (hb1.cell_ 7 (v := .int .i64 bs.length) rfl)
                have z8 := Since.cell (hb1.cell_ 8 (v := .slice A bs.faults.length c) rfl)
                clear hb1
                dsimp only [pick, List.filterMap, List.getElem?_cons_succ, List.getElem?_cons_zero]
                repeat (go_big_quiet_step (fail))
                exact wpQuiet_nil rfl
              refine ⟨by simp [Act.eval], rfl, fun w1 hb1 => ?_, fun u w8 hb8 hR => ?_⟩
              · refine (HP2.out w1 (Slc.on HV.out.slc hb1)).mono ?_
                rintro e w2 ⟨A', c', rfl, hb2, hS2, hO2⟩
                exact ⟨_, rfl, ⟨A', c', rfl, ItV.made hS2 hO2⟩, hb2⟩
              obtain ⟨Ar, cr, rfl, hVr⟩ := hR
              have hn8 := hn.below hb8 hn.lt
              have ht8 := ht.below hb8 ht.lt
              have hbb8 := HBB.out.below hb8 HBB.out.lt
              have hff8 := hff.below hb8 hff.lt
              have hss8 := hss.below hb8 hss.lt
              have hr8 := hr.below hb8 hr.lt
              have HV8 := hide (HV.out.below hb8)
              have HVf8 := hide (HVf.out.below hb8)
              have HVr := hide hVr
              have hn0 := hn.lt
              have hB8 := hB.trans (hb8.mono (by omega))
              clear hn ht HBB hff hss hr HV HVf hVr hB hb8 HP2 e2 hn0
              obtain ⟨W, rfl⟩ : ∃ X : World, X = w8 := ⟨_, rfl⟩
              dsimp only [Act.put]
              simp only [List.setIfInBounds_toArray, List.set_cons_succ, List.set_cons_zero, List.drop_succ_cons, List.drop_zero]
              refine wpList_store_at rfl 3 _ _ rfl (.int .i64 (bs.length - (q + n.length))) hr8 rfl rfl (by kernel_rfl) rfl (by simp) rfl ?_
              intro W3 hr3 hc3
              go_upto_region 17 with (refine wpList_store_at rfl 34 _ _ rfl (.slice Ar rl.length cr) hr3 rfl rfl (by kernel_rfl) rfl (by simp) rfl ?_; intro W4 hr4 hc4)
              have hS3 : ∀ k, (fun k => k = hrb) k → NoSpan W k := fun k hk => by have hk : k = hrb := hk; subst hk; exact NoSpan.blk hr8 (by decide)
              have hS4 : ∀ k, (fun k => k = hrb) k → NoSpan W3 k := fun k hk => by have hk : k = hrb := hk; subst hk; exact NoSpan.blk hr3 (by decide)
              have HV9 := hide ((HV8.out.chg hc3 hS3).chg hc4 hS4)
              have HVf9 := hide ((HVf8.out.chg hc3 hS3).chg hc4 hS4)
              have HVr9 := hide ((HVr.out.chg hc3 hS3).chg hc4 hS4)
              have hn9 := (hn8.chg1 hc3 (by omega)).chg1 hc4 (by omega)
              have ht9 := (ht8.chg1 hc3 (by omega)).chg1 hc4 (by omega)
              have hbb9 := (hbb8.chg1 hc3 (by omega)).chg1 hc4 (by omega)
              have hff9 := (hff8.chg1 hc3 (by omega)).chg1 hc4 (by omega)
              have hss9 := (hss8.chg1 hc3 (by omega)).chg1 hc4 (by omega)
              have hn0 := hn9.lt
              have hb3 : Below b0 W W3 := hc3.below1 (by have := hr8.lt; omega) (by omega)
              have hb4 : Below b0 W3 W4 := hc4.below1 (by have := hr3.lt; omega) (by omega)
              have hB9 := (hB8.trans hb3).trans hb4
              have hrr9 : Blk W4 hrb 65 #[.int .i64 bs.id, .int .i64 bs.root, .int .i64 bs.grade, .int .i64 bs.colour, .int .i64 bs.lot, .int .i64 bs.made, .int .i64 bs.width, .int .i64 (bs.length - (q + n.length)), .slice Ar rl.length cr] := hr4
              have HVs9 : Hid (ItV W4 { bs with width := bs.width - n.width, length := n.length, faults := [] } (Sheet.valAt { bs with width := bs.width - n.width, length := n.length, faults := [] } none 0)) := ⟨none, 0, rfl, fun i y hy => by simp at hy, fun h => absurd rfl h⟩
              clear hr8 hr3 hr4 hS3 hS4 hc3 hc4 hb3 hb4 hn0 HV8 HVf8 HVr hn8 ht8 hbb8 hff8 hss8 hB8 HVs
              obtain ⟨W, rfl⟩ : ∃ X : World, X = W4 := ⟨_, rfl⟩
              try dsimp only [Act.put]
              have hX := (HAT.out W hB9).1
              have hC : Chg p.has w W := .of_below (by rw [HB0.out]; exact hB9)
              clear hB9
              have c6 := hX.blk.cell_ 6 (v := .map (some p.ri)) rfl
              have y0 := hn9.cell_ 0 rfl
              have y1 := hn9.cell_ 1 rfl
              have y2 := hn9.cell_ 2 rfl
              have y3 := hn9.cell_ 3 rfl
              have y4 := hn9.cell_ 4 rfl
              have t0 := ht9.cell_ 0 rfl
              have t1 := ht9.cell_ 1 rfl
              have t2 := ht9.cell_ 2 rfl
              have t3 := ht9.cell_ 3 rfl
              have t4 := ht9.cell_ 4 rfl
              have t5 := ht9.cell_ 5 rfl
              have t6 := ht9.cell_ 6 rfl
              have t7 := ht9.cell_ 7 rfl
              have z0 := hbb9.cell_ 0 rfl
              have z1 := hbb9.cell_ 1 rfl
              have z2 := hbb9.cell_ 2 rfl
              have z3 := hbb9.cell_ 3 rfl
              have z4 := hbb9.cell_ 4 rfl
              have z5 := hbb9.cell_ 5 rfl
              have z6 := hbb9.cell_ 6 rfl
              have z7 := hbb9.cell_ 7 rfl
              have z8 := hbb9.cell_ 8 rfl
              have f0 := hff9.cell_ 0 rfl
              have f1 := hff9.cell_ 1 rfl
              have f2 := hff9.cell_ 2 rfl
              have f3 := hff9.cell_ 3 rfl
              have f4 := hff9.cell_ 4 rfl
              have f5 := hff9.cell_ 5 rfl
              have f6 := hff9.cell_ 6 rfl
              have f7 := hff9.cell_ 7 rfl
              have f8 := hff9.cell_ 8 rfl
              have s0 := hss9.cell_ 0 rfl
              have s1 := hss9.cell_ 1 rfl
              have s2 := hss9.cell_ 2 rfl
              have s3 := hss9.cell_ 3 rfl
              have s4 := hss9.cell_ 4 rfl
              have s5 := hss9.cell_ 5 rfl
              have s6 := hss9.cell_ 6 rfl
              have s7 := hss9.cell_ 7 rfl
              have s8 := hss9.cell_ 8 rfl
              have r0 := hrr9.cell_ 0 rfl
              have r1 := hrr9.cell_ 1 rfl
              have r2 := hrr9.cell_ 2 rfl
              have r3 := hrr9.cell_ 3 rfl
              have r4 := hrr9.cell_ 4 rfl
              have r5 := hrr9.cell_ 5 rfl
              have r6 := hrr9.cell_ 6 rfl
              have r7 := hrr9.cell_ 7 rfl
              have r8 := hrr9.cell_ 8 rfl
              go_wp2_with fail
              refine wp_region_quiet_tail (C := fun w' => ∃ u : Since W, w' = u.w) 6 (by kernel_rfl) (by kernel_rfl) (Since.start W) ?_
              simp only [List.take_succ_cons, List.take_zero, List.drop_succ_cons, List.drop_zero]
              have y_y0 := Since.cell y0
              have y_y1 := Since.cell y1
              have y_y2 := Since.cell y2
              have y_y3 := Since.cell y3
              have y_y4 := Since.cell y4
              have y_t0 := Since.cell t0
              have y_t1 := Since.cell t1
              have y_t2 := Since.cell t2
              have y_t3 := Since.cell t3
              have y_t4 := Since.cell t4
              have y_t5 := Since.cell t5
              have y_t6 := Since.cell t6
              have y_t7 := Since.cell t7
              have y_z0 := Since.cell z0
              have y_z1 := Since.cell z1
              have y_z2 := Since.cell z2
              have y_z3 := Since.cell z3
              have y_z4 := Since.cell z4
              have y_z5 := Since.cell z5
              have y_z6 := Since.cell z6
              have y_z7 := Since.cell z7
              have y_z8 := Since.cell z8
              have y_f0 := Since.cell f0
              have y_f1 := Since.cell f1
              have y_f2 := Since.cell f2
              have y_f3 := Since.cell f3
              have y_f4 := Since.cell f4
              have y_f5 := Since.cell f5
              have y_f6 := Since.cell f6
              have y_f7 := Since.cell f7
              have y_f8 := Since.cell f8
              have y_s0 := Since.cell s0
              have y_s1 := Since.cell s1
              have y_s2 := Since.cell s2
              have y_s3 := Since.cell s3
              have y_s4 := Since.cell s4
              have y_s5 := Since.cell s5
              have y_s6 := Since.cell s6
              have y_s7 := Since.cell s7
              have y_s8 := Since.cell s8
              have y_r0 := Since.cell r0
              have y_r1 := Since.cell r1
              have y_r2 := Since.cell r2
              have y_r3 := Since.cell r3
              have y_r4 := Since.cell r4
              have y_r5 := Since.cell r5
              have y_r6 := Since.cell r6
              have y_r7 := Since.cell r7
              have y_r8 := Since.cell r8
              have y_c6 := Since.cell c6
              clear y0 y1 y2 y3 y4 t0 t1 t2 t3 t4 t5 t6 t7 z0 z1 z2 z3 z4 z5 z6 z7 z8 f0 f1 f2 f3 f4 f5 f6 f7 f8 s0 s1 s2 s3 s4 s5 s6 s7 s8 r0 r1 r2 r3 r4 r5 r6 r7 r8
              repeat (go_big_quiet_step ((fail)))
              refine wpQuiet_nil ?_
              rintro W ⟨⟨_, hb⟩, rfl⟩
              try dsimp only at hb ⊢
              replace c6 : W.cell? _ = _ := y_c6 ⟨W, hb⟩
              clear y_y0 y_y1 y_y2 y_y3 y_y4 y_t0 y_t1 y_t2 y_t3 y_t4 y_t5 y_t6 y_t7 y_z0 y_z1 y_z2 y_z3 y_z4 y_z5 y_z6 y_z7 y_z8 y_f0 y_f1 y_f2 y_f3 y_f4 y_f5 y_f6 y_f7 y_f8 y_s0 y_s1 y_s2 y_s3 y_s4 y_s5 y_s6 y_s7 y_s8 y_r0 y_r1 y_r2 y_r3 y_r4 y_r5 y_r6 y_r7 y_r8 y_c6
              replace HV9 := hide (ItV.below (Hid.out HV9) hb)
              replace HVf9 := hide (ItV.below (Hid.out HVf9) hb)
              replace HVr9 := hide (ItV.below (Hid.out HVr9) hb)
              replace HVs9 := hide (ItV.below (Hid.out HVs9) hb)
              replace hX := StA.below hX hb
              replace hC := Chg.trans hC (Chg.of_below hb)
              replace hn9 := hn9.below hb hn9.lt
              replace ht9 := ht9.below hb ht9.lt
              replace hbb9 := hbb9.below hb hbb9.lt
              replace hff9 := hff9.below hb hff9.lt
              replace hss9 := hss9.below hb hss9.lt
              replace hrr9 := hrr9.below hb hrr9.lt
              clear hb
              have y0 := hn9.cell_ 0 rfl
              have y1 := hn9.cell_ 1 rfl
              have y2 := hn9.cell_ 2 rfl
              have y3 := hn9.cell_ 3 rfl
              have y4 := hn9.cell_ 4 rfl
              have t0 := ht9.cell_ 0 rfl
              have t1 := ht9.cell_ 1 rfl
              have t2 := ht9.cell_ 2 rfl
              have t3 := ht9.cell_ 3 rfl
              have t4 := ht9.cell_ 4 rfl
              have t5 := ht9.cell_ 5 rfl
              have t6 := ht9.cell_ 6 rfl
              have t7 := ht9.cell_ 7 rfl
              have z0 := hbb9.cell_ 0 rfl
              have z1 := hbb9.cell_ 1 rfl
              have z2 := hbb9.cell_ 2 rfl
              have z3 := hbb9.cell_ 3 rfl
              have z4 := hbb9.cell_ 4 rfl
              have z5 := hbb9.cell_ 5 rfl
              have z6 := hbb9.cell_ 6 rfl
              have z7 := hbb9.cell_ 7 rfl
              have z8 := hbb9.cell_ 8 rfl
              have f0 := hff9.cell_ 0 rfl
              have f1 := hff9.cell_ 1 rfl
              have f2 := hff9.cell_ 2 rfl
              have f3 := hff9.cell_ 3 rfl
              have f4 := hff9.cell_ 4 rfl
              have f5 := hff9.cell_ 5 rfl
              have f6 := hff9.cell_ 6 rfl
              have f7 := hff9.cell_ 7 rfl
              have f8 := hff9.cell_ 8 rfl
              have s0 := hss9.cell_ 0 rfl
              have s1 := hss9.cell_ 1 rfl
              have s2 := hss9.cell_ 2 rfl
              have s3 := hss9.cell_ 3 rfl
              have s4 := hss9.cell_ 4 rfl
              have s5 := hss9.cell_ 5 rfl
              have s6 := hss9.cell_ 6 rfl
              have s7 := hss9.cell_ 7 rfl
              have s8 := hss9.cell_ 8 rfl
              have r0 := hrr9.cell_ 0 rfl
              have r1 := hrr9.cell_ 1 rfl
              have r2 := hrr9.cell_ 2 rfl
              have r3 := hrr9.cell_ 3 rfl
              have r4 := hrr9.cell_ 4 rfl
              have r5 := hrr9.cell_ 5 rfl
              have r6 := hrr9.cell_ 6 rfl
              have r7 := hrr9.cell_ 7 rfl
              have r8 := hrr9.cell_ 8 rfl
              clear y0 y1 y2 y3 y4 t0 t1 t2 t3 t4 t5 t6 t7 z0 z1 z2 z3 z4 z5 z6 z7 z8 f0 f1 f2 f3 f4 f5 f6 f7 f8 s0 s1 s2 s3 s4 s5 s6 s7 s8 r0 r1 r2 r3 r4 r5 r6 r7 r8
              clear c6
              obtain ⟨MJ, hMJ, hZJ⟩ := hX.items
              go_upto_region 18 with (refine wpList_del_im rfl rfl _ _ _ _ rfl _ Try.underlying54 Try.underlying3 p.ri rfl hMJ bs.id rfl ?_; intro W4 hM4 hg4)
              have hX4 := hX.del_item hg4 hZJ hM4
              have hC4 : Chg p.has w W4 := hC.trans (.of_grown hg4 (by simp [Fp.has]))
              have hCW : Chg p.has W W4 := .of_grown hg4 (by simp [Fp.has])
              have hns : ∀ k, p.has k → NoSpan W k := fun k hk => hX.noSpan hk
              have hn := hn9.chgS hX hCW (by decide)
              have ht := ht9.chgS hX hCW (by decide)
              have hbb := hbb9.chgS hX hCW (by decide)
              have hff := hff9.chgS hX hCW (by decide)
              have hss := hss9.chgS hX hCW (by decide)
              have hrr := hrr9.chgS hX hCW (by decide)
              have HVf := hide (HVf9.out.chg hCW hns)
              have HVr := hide (HVr9.out.chg hCW hns)
              have HVs := hide (HVs9.out.chg hCW hns)
              clear hX hC hn9 ht9 hbb9 hff9 hss9 hrr9 HV9 HVf9 HVr9 HVs9 hMJ hZJ hM4 hg4 hCW hns
              obtain ⟨W, rfl⟩ : ∃ X : World, X = W4 := ⟨_, rfl⟩
              have hX := hX4
              have hC := hC4
              clear hX4 hC4
              have HCB := hide (cut_bd HI.out HF.out HN.out HBO.out HLW.out.2 ⟨HQ.out.2.1, HQ.out.2.2.1⟩)
              obtain ⟨sA, hs1⟩ : ∃ t, cutA s bs q = t := ⟨_, rfl⟩
              have H1 := hide hs1
              have A1 := fun W hX hV => add_any p { s with items := del s.items bs.id } { bs with length := q, faults := fl } Af cf bs.id 1 W hX hV HCB.out.aA ⟨HCB.out.w0.1, by have := HCB.out.w0.2; show s.waste ≤ _; omega⟩ ⟨HCB.out.l0.1, by have := HCB.out.l0.2; show s.last ≤ _; omega⟩
              rw [show addF { s with items := del s.items bs.id } { bs with length := q, faults := fl } bs.id 1 = sA by rw [← hs1, ← HFL.out]; rfl] at A1
              have HA1 := hide A1
              clear A1 hs1
              have z0 := hbb.cell_ 0 rfl
              have f0 := hff.cell_ 0 rfl
              have f1 := hff.cell_ 1 rfl
              have f2 := hff.cell_ 2 rfl
              have f3 := hff.cell_ 3 rfl
              have f4 := hff.cell_ 4 rfl
              have f5 := hff.cell_ 5 rfl
              have f6 := hff.cell_ 6 rfl
              have f7 := hff.cell_ 7 rfl
              have f8 := hff.cell_ 8 rfl
              go_wp2_with fail
              clear z0 f0 f1 f2 f3 f4 f5 f6 f7 f8
              refine (HA1.out W hX HVf.out).mono ?_
              rintro e W4 ⟨rfl, hX4, hcc⟩
              clear HA1 hff HVf HFL
              have hns : ∀ k, p.has k → NoSpan W k := fun k hk => hX.noSpan hk
              replace hC := hC.trans hcc
              replace hn := hn.chgS hX hcc (by decide)
              replace ht := ht.chgS hX hcc (by decide)
              replace hbb := hbb.chgS hX hcc (by decide)
              try replace hss := hss.chgS hX hcc (by decide)
              replace hrr := hrr.chgS hX hcc (by decide)
              try replace HVs := hide (HVs.out.chg hcc hns)
              replace HVr := hide (HVr.out.chg hcc hns)
              clear hns hX hcc
              have hX := hX4
              clear hX4
              obtain ⟨W, rfl⟩ : ∃ X : World, X = W4 := ⟨_, rfl⟩
              have c0 := hX.blk.cell_ 0 (v := .int .i64 sA.rules.minWidth) rfl
              have y0 := hn.cell_ 0 rfl
              have y1 := hn.cell_ 1 rfl
              have y2 := hn.cell_ 2 rfl
              have y3 := hn.cell_ 3 rfl
              have y4 := hn.cell_ 4 rfl
              have t0 := ht.cell_ 0 rfl
              have t1 := ht.cell_ 1 rfl
              have t2 := ht.cell_ 2 rfl
              have t3 := ht.cell_ 3 rfl
              have t4 := ht.cell_ 4 rfl
              have t5 := ht.cell_ 5 rfl
              have t6 := ht.cell_ 6 rfl
              have t7 := ht.cell_ 7 rfl
              have z0 := hbb.cell_ 0 rfl
              have z1 := hbb.cell_ 1 rfl
              have z2 := hbb.cell_ 2 rfl
              have z3 := hbb.cell_ 3 rfl
              have z4 := hbb.cell_ 4 rfl
              have z5 := hbb.cell_ 5 rfl
              have z6 := hbb.cell_ 6 rfl
              have z7 := hbb.cell_ 7 rfl
              have z8 := hbb.cell_ 8 rfl
              have s0 := hss.cell_ 0 rfl
              have s1 := hss.cell_ 1 rfl
              have s2 := hss.cell_ 2 rfl
              have s3 := hss.cell_ 3 rfl
              have s4 := hss.cell_ 4 rfl
              have s5 := hss.cell_ 5 rfl
              have s6 := hss.cell_ 6 rfl
              have s7 := hss.cell_ 7 rfl
              have s8 := hss.cell_ 8 rfl
              have r0 := hrr.cell_ 0 rfl
              have r1 := hrr.cell_ 1 rfl
              have r2 := hrr.cell_ 2 rfl
              have r3 := hrr.cell_ 3 rfl
              have r4 := hrr.cell_ 4 rfl
              have r5 := hrr.cell_ 5 rfl
              have r6 := hrr.cell_ 6 rfl
              have r7 := hrr.cell_ 7 rfl
              have r8 := hrr.cell_ 8 rfl
              go_wp2_with fail
              refine wp_region_quiet_tail (C := fun w' => ∃ u : Since W, w' = u.w) 9 (by kernel_rfl) (by kernel_rfl) (Since.start W) ?_
              simp only [List.take_succ_cons, List.take_zero, List.drop_succ_cons, List.drop_zero]
              have y_y0 := Since.cell y0
              have y_y1 := Since.cell y1
              have y_y2 := Since.cell y2
              have y_y3 := Since.cell y3
              have y_y4 := Since.cell y4
              have y_t0 := Since.cell t0
              have y_t1 := Since.cell t1
              have y_t2 := Since.cell t2
              have y_t3 := Since.cell t3
              have y_t4 := Since.cell t4
              have y_t5 := Since.cell t5
              have y_t6 := Since.cell t6
              have y_t7 := Since.cell t7
              have y_z0 := Since.cell z0
              have y_z1 := Since.cell z1
              have y_z2 := Since.cell z2
              have y_z3 := Since.cell z3
              have y_z4 := Since.cell z4
              have y_z5 := Since.cell z5
              have y_z6 := Since.cell z6
              have y_z7 := Since.cell z7
              have y_z8 := Since.cell z8
              have y_s0 := Since.cell s0
              have y_s1 := Since.cell s1
              have y_s2 := Since.cell s2
              have y_s3 := Since.cell s3
              have y_s4 := Since.cell s4
              have y_s5 := Since.cell s5
              have y_s6 := Since.cell s6
              have y_s7 := Since.cell s7
              have y_s8 := Since.cell s8
              have y_r0 := Since.cell r0
              have y_r1 := Since.cell r1
              have y_r2 := Since.cell r2
              have y_r3 := Since.cell r3
              have y_r4 := Since.cell r4
              have y_r5 := Since.cell r5
              have y_r6 := Since.cell r6
              have y_r7 := Since.cell r7
              have y_r8 := Since.cell r8
              have y_c0 := Since.cell c0
              clear y0 y1 y2 y3 y4 t0 t1 t2 t3 t4 t5 t6 t7 z0 z1 z2 z3 z4 z5 z6 z7 z8 s0 s1 s2 s3 s4 s5 s6 s7 s8 r0 r1 r2 r3 r4 r5 r6 r7 r8
              repeat (go_big_quiet_step ((fail)))
              refine wpQuiet_nil ?_
              rintro W ⟨⟨_, hb⟩, rfl⟩
              try dsimp only at hb ⊢
              replace c0 : W.cell? _ = _ := y_c0 ⟨W, hb⟩
              clear y_y0 y_y1 y_y2 y_y3 y_y4 y_t0 y_t1 y_t2 y_t3 y_t4 y_t5 y_t6 y_t7 y_z0 y_z1 y_z2 y_z3 y_z4 y_z5 y_z6 y_z7 y_z8 y_s0 y_s1 y_s2 y_s3 y_s4 y_s5 y_s6 y_s7 y_s8 y_r0 y_r1 y_r2 y_r3 y_r4 y_r5 y_r6 y_r7 y_r8 y_c0
              replace hX := StA.below hX hb
              replace hC := Chg.trans hC (Chg.of_below hb)
              replace hn := hn.below hb hn.lt
              replace ht := ht.below hb ht.lt
              replace hbb := hbb.below hb hbb.lt
              replace hss := hss.below hb hss.lt
              replace hrr := hrr.below hb hrr.lt
              replace HVr := hide (ItV.below (Hid.out HVr) hb)
              replace HVs := hide (ItV.below (Hid.out HVs) hb)
              clear hb
              have y0 := hn.cell_ 0 rfl
              have y1 := hn.cell_ 1 rfl
              have y2 := hn.cell_ 2 rfl
              have y3 := hn.cell_ 3 rfl
              have y4 := hn.cell_ 4 rfl
              have t0 := ht.cell_ 0 rfl
              have t1 := ht.cell_ 1 rfl
              have t2 := ht.cell_ 2 rfl
              have t3 := ht.cell_ 3 rfl
              have t4 := ht.cell_ 4 rfl
              have t5 := ht.cell_ 5 rfl
              have t6 := ht.cell_ 6 rfl
              have t7 := ht.cell_ 7 rfl
              have z0 := hbb.cell_ 0 rfl
              have z1 := hbb.cell_ 1 rfl
              have z2 := hbb.cell_ 2 rfl
              have z3 := hbb.cell_ 3 rfl
              have z4 := hbb.cell_ 4 rfl
              have z5 := hbb.cell_ 5 rfl
              have z6 := hbb.cell_ 6 rfl
              have z7 := hbb.cell_ 7 rfl
              have z8 := hbb.cell_ 8 rfl
              have s0 := hss.cell_ 0 rfl
              have s1 := hss.cell_ 1 rfl
              have s2 := hss.cell_ 2 rfl
              have s3 := hss.cell_ 3 rfl
              have s4 := hss.cell_ 4 rfl
              have s5 := hss.cell_ 5 rfl
              have s6 := hss.cell_ 6 rfl
              have s7 := hss.cell_ 7 rfl
              have s8 := hss.cell_ 8 rfl
              have r0 := hrr.cell_ 0 rfl
              have r1 := hrr.cell_ 1 rfl
              have r2 := hrr.cell_ 2 rfl
              have r3 := hrr.cell_ 3 rfl
              have r4 := hrr.cell_ 4 rfl
              have r5 := hrr.cell_ 5 rfl
              have r6 := hrr.cell_ 6 rfl
              have r7 := hrr.cell_ 7 rfl
              have r8 := hrr.cell_ 8 rfl
              obtain ⟨sB, hs2⟩ : ∃ t, cutB s n bs q = t := ⟨_, rfl⟩
              have H2 := hide hs2
              have A2 := fun W hX hV => add_any p sA { bs with width := bs.width - n.width, length := n.length, faults := [] } none 0 bs.id sA.rules.minWidth W hX hV HCB.out.aB (by have h := HCB.out.wA; rw [H1.out] at h; omega) (by have h := HCB.out.lA; rw [H1.out] at h; omega)
              rw [show addF sA { bs with width := bs.width - n.width, length := n.length, faults := [] } bs.id sA.rules.minWidth = sB by rw [← hs2, ← H1.out, HCB.out.rA]; try rfl] at A2
              have HA2 := hide A2
              clear A2 hs2
              go_wp2_with fail
              refine (HA2.out W hX HVs.out).mono ?_
              rintro e W4 ⟨rfl, hX4, hcc⟩
              clear y0 y1 y2 y3 y4 t0 t1 t2 t3 t4 t5 t6 t7 z0 z1 z2 z3 z4 z5 z6 z7 z8 s0 s1 s2 s3 s4 s5 s6 s7 s8 r0 r1 r2 r3 r4 r5 r6 r7 r8
              clear c0 HA2 hss HVs H1
              have hns : ∀ k, p.has k → NoSpan W k := fun k hk => hX.noSpan hk
              replace hC := hC.trans hcc
              replace hn := hn.chgS hX hcc (by decide)
              replace ht := ht.chgS hX hcc (by decide)
              replace hbb := hbb.chgS hX hcc (by decide)
              try replace hss := hss.chgS hX hcc (by decide)
              replace hrr := hrr.chgS hX hcc (by decide)
              try replace HVs := hide (HVs.out.chg hcc hns)
              replace HVr := hide (HVr.out.chg hcc hns)
              clear hns hX hcc
              have hX := hX4
              clear hX4
              obtain ⟨W, rfl⟩ : ∃ X : World, X = W4 := ⟨_, rfl⟩
              have c1 := hX.blk.cell_ 1 (v := .int .i64 sB.rules.minLength) rfl
              have y0 := hn.cell_ 0 rfl
              have y1 := hn.cell_ 1 rfl
              have y2 := hn.cell_ 2 rfl
              have y3 := hn.cell_ 3 rfl
              have y4 := hn.cell_ 4 rfl
              have t0 := ht.cell_ 0 rfl
              have t1 := ht.cell_ 1 rfl
              have t2 := ht.cell_ 2 rfl
              have t3 := ht.cell_ 3 rfl
              have t4 := ht.cell_ 4 rfl
              have t5 := ht.cell_ 5 rfl
              have t6 := ht.cell_ 6 rfl
              have t7 := ht.cell_ 7 rfl
              have z0 := hbb.cell_ 0 rfl
              have z1 := hbb.cell_ 1 rfl
              have z2 := hbb.cell_ 2 rfl
              have z3 := hbb.cell_ 3 rfl
              have z4 := hbb.cell_ 4 rfl
              have z5 := hbb.cell_ 5 rfl
              have z6 := hbb.cell_ 6 rfl
              have z7 := hbb.cell_ 7 rfl
              have z8 := hbb.cell_ 8 rfl
              have r0 := hrr.cell_ 0 rfl
              have r1 := hrr.cell_ 1 rfl
              have r2 := hrr.cell_ 2 rfl
              have r3 := hrr.cell_ 3 rfl
              have r4 := hrr.cell_ 4 rfl
              have r5 := hrr.cell_ 5 rfl
              have r6 := hrr.cell_ 6 rfl
              have r7 := hrr.cell_ 7 rfl
              have r8 := hrr.cell_ 8 rfl
              by_cases h1 : sB.rules.minLength ≤ bs.length - (q + n.length)
              · have d1 : decide (sB.rules.minLength ≤ bs.length - (q + n.length)) = true := by simpa using h1
                obtain ⟨sC, hs3⟩ : ∃ t, cutC s n bs q = t := ⟨_, rfl⟩
                have h3 : sC = { sB with items := put sB.items bs.id { bs with length := bs.length - (q + n.length), faults := rl } } := by rw [← hs3, ← H2.out, ← HRL.out]; unfold cutC restF; rw [if_pos (by rw [H2.out]; exact h1)]
                have H3 := hide hs3
                have H3E := hide h3
                clear h1 h3 hs3
                go_wp2_with fail
                refine wp_region_quiet (C := fun w' => ∃ u : Since W, w' = u.w) (by kernel_rfl) (by kernel_rfl) (Since.start W) ?_
                dsimp only
                have y_y0 := Since.cell y0
                have y_y1 := Since.cell y1
                have y_y2 := Since.cell y2
                have y_y3 := Since.cell y3
                have y_y4 := Since.cell y4
                have y_t0 := Since.cell t0
                have y_t1 := Since.cell t1
                have y_t2 := Since.cell t2
                have y_t3 := Since.cell t3
                have y_t4 := Since.cell t4
                have y_t5 := Since.cell t5
                have y_t6 := Since.cell t6
                have y_t7 := Since.cell t7
                have y_z0 := Since.cell z0
                have y_z1 := Since.cell z1
                have y_z2 := Since.cell z2
                have y_z3 := Since.cell z3
                have y_z4 := Since.cell z4
                have y_z5 := Since.cell z5
                have y_z6 := Since.cell z6
                have y_z7 := Since.cell z7
                have y_z8 := Since.cell z8
                have y_r0 := Since.cell r0
                have y_r1 := Since.cell r1
                have y_r2 := Since.cell r2
                have y_r3 := Since.cell r3
                have y_r4 := Since.cell r4
                have y_r5 := Since.cell r5
                have y_r6 := Since.cell r6
                have y_r7 := Since.cell r7
                have y_r8 := Since.cell r8
                have y_c1 := Since.cell c1
                clear y0 y1 y2 y3 y4 t0 t1 t2 t3 t4 t5 t6 t7 z0 z1 z2 z3 z4 z5 z6 z7 z8 r0 r1 r2 r3 r4 r5 r6 r7 r8
                repeat (go_big_quiet_step ((fail)))
                refine wpQuiet_nil ?_
                rintro W ⟨⟨_, hb⟩, rfl⟩
                try dsimp only at hb ⊢
                replace c1 : W.cell? _ = _ := y_c1 ⟨W, hb⟩
                clear y_y0 y_y1 y_y2 y_y3 y_y4 y_t0 y_t1 y_t2 y_t3 y_t4 y_t5 y_t6 y_t7 y_z0 y_z1 y_z2 y_z3 y_z4 y_z5 y_z6 y_z7 y_z8 y_r0 y_r1 y_r2 y_r3 y_r4 y_r5 y_r6 y_r7 y_r8 y_c1
                replace hX := StA.below hX hb
                replace hC := Chg.trans hC (Chg.of_below hb)
                replace hn := hn.below hb hn.lt
                replace ht := ht.below hb ht.lt
                replace hbb := hbb.below hb hbb.lt
                replace hrr := hrr.below hb hrr.lt
                replace HVr := hide (ItV.below (Hid.out HVr) hb)
                clear hb
                have y0 := hn.cell_ 0 rfl
                have y1 := hn.cell_ 1 rfl
                have y2 := hn.cell_ 2 rfl
                have y3 := hn.cell_ 3 rfl
                have y4 := hn.cell_ 4 rfl
                have t0 := ht.cell_ 0 rfl
                have t1 := ht.cell_ 1 rfl
                have t2 := ht.cell_ 2 rfl
                have t3 := ht.cell_ 3 rfl
                have t4 := ht.cell_ 4 rfl
                have t5 := ht.cell_ 5 rfl
                have t6 := ht.cell_ 6 rfl
                have t7 := ht.cell_ 7 rfl
                have z0 := hbb.cell_ 0 rfl
                have z1 := hbb.cell_ 1 rfl
                have z2 := hbb.cell_ 2 rfl
                have z3 := hbb.cell_ 3 rfl
                have z4 := hbb.cell_ 4 rfl
                have z5 := hbb.cell_ 5 rfl
                have z6 := hbb.cell_ 6 rfl
                have z7 := hbb.cell_ 7 rfl
                have z8 := hbb.cell_ 8 rfl
                have r0 := hrr.cell_ 0 rfl
                have r1 := hrr.cell_ 1 rfl
                have r2 := hrr.cell_ 2 rfl
                have r3 := hrr.cell_ 3 rfl
                have r4 := hrr.cell_ 4 rfl
                have r5 := hrr.cell_ 5 rfl
                have r6 := hrr.cell_ 6 rfl
                have r7 := hrr.cell_ 7 rfl
                have r8 := hrr.cell_ 8 rfl
                clear y0 y1 y2 y3 y4 t0 t1 t2 t3 t4 t5 t6 t7 z0 z1 z2 z3 z4 z5 z6 z7 z8 r0 r1 r2 r3 r4 r5 r6 r7 r8
                clear d1 c1
                have c6 := hX.blk.cell_ 6 (v := .map (some p.ri)) rfl
                have y0 := hn.cell_ 0 rfl
                have y1 := hn.cell_ 1 rfl
                have y2 := hn.cell_ 2 rfl
                have y3 := hn.cell_ 3 rfl
                have y4 := hn.cell_ 4 rfl
                have t0 := ht.cell_ 0 rfl
                have t1 := ht.cell_ 1 rfl
                have t2 := ht.cell_ 2 rfl
                have t3 := ht.cell_ 3 rfl
                have t4 := ht.cell_ 4 rfl
                have t5 := ht.cell_ 5 rfl
                have t6 := ht.cell_ 6 rfl
                have t7 := ht.cell_ 7 rfl
                have z0 := hbb.cell_ 0 rfl
                have z1 := hbb.cell_ 1 rfl
                have z2 := hbb.cell_ 2 rfl
                have z3 := hbb.cell_ 3 rfl
                have z4 := hbb.cell_ 4 rfl
                have z5 := hbb.cell_ 5 rfl
                have z6 := hbb.cell_ 6 rfl
                have z7 := hbb.cell_ 7 rfl
                have z8 := hbb.cell_ 8 rfl
                have r0 := hrr.cell_ 0 rfl
                have r1 := hrr.cell_ 1 rfl
                have r2 := hrr.cell_ 2 rfl
                have r3 := hrr.cell_ 3 rfl
                have r4 := hrr.cell_ 4 rfl
                have r5 := hrr.cell_ 5 rfl
                have r6 := hrr.cell_ 6 rfl
                have r7 := hrr.cell_ 7 rfl
                have r8 := hrr.cell_ 8 rfl
                go_wp2_with fail
                refine wp_region_quiet_tail (C := fun w' => ∃ u : Since W, w' = u.w) 7 (by kernel_rfl) (by kernel_rfl) (Since.start W) ?_
                simp only [List.take_succ_cons, List.take_zero, List.drop_succ_cons, List.drop_zero]
                have y_y0 := Since.cell y0
                have y_y1 := Since.cell y1
                have y_y2 := Since.cell y2
                have y_y3 := Since.cell y3
                have y_y4 := Since.cell y4
                have y_t0 := Since.cell t0
                have y_t1 := Since.cell t1
                have y_t2 := Since.cell t2
                have y_t3 := Since.cell t3
                have y_t4 := Since.cell t4
                have y_t5 := Since.cell t5
                have y_t6 := Since.cell t6
                have y_t7 := Since.cell t7
                have y_z0 := Since.cell z0
                have y_z1 := Since.cell z1
                have y_z2 := Since.cell z2
                have y_z3 := Since.cell z3
                have y_z4 := Since.cell z4
                have y_z5 := Since.cell z5
                have y_z6 := Since.cell z6
                have y_z7 := Since.cell z7
                have y_z8 := Since.cell z8
                have y_r0 := Since.cell r0
                have y_r1 := Since.cell r1
                have y_r2 := Since.cell r2
                have y_r3 := Since.cell r3
                have y_r4 := Since.cell r4
                have y_r5 := Since.cell r5
                have y_r6 := Since.cell r6
                have y_r7 := Since.cell r7
                have y_r8 := Since.cell r8
                have y_c6 := Since.cell c6
                clear y0 y1 y2 y3 y4 t0 t1 t2 t3 t4 t5 t6 t7 z0 z1 z2 z3 z4 z5 z6 z7 z8 r0 r1 r2 r3 r4 r5 r6 r7 r8
                repeat (go_big_quiet_step ((fail)))
                refine wpQuiet_nil ?_
                rintro W ⟨⟨_, hb⟩, rfl⟩
                try dsimp only at hb ⊢
                replace c6 : W.cell? _ = _ := y_c6 ⟨W, hb⟩
                clear y_y0 y_y1 y_y2 y_y3 y_y4 y_t0 y_t1 y_t2 y_t3 y_t4 y_t5 y_t6 y_t7 y_z0 y_z1 y_z2 y_z3 y_z4 y_z5 y_z6 y_z7 y_z8 y_r0 y_r1 y_r2 y_r3 y_r4 y_r5 y_r6 y_r7 y_r8 y_c6
                replace hX := StA.below hX hb
                replace hC := Chg.trans hC (Chg.of_below hb)
                replace hn := hn.below hb hn.lt
                replace ht := ht.below hb ht.lt
                replace hbb := hbb.below hb hbb.lt
                replace hrr := hrr.below hb hrr.lt
                replace HVr := hide (ItV.below (Hid.out HVr) hb)
                clear hb
                have y0 := hn.cell_ 0 rfl
                have y1 := hn.cell_ 1 rfl
                have y2 := hn.cell_ 2 rfl
                have y3 := hn.cell_ 3 rfl
                have y4 := hn.cell_ 4 rfl
                have t0 := ht.cell_ 0 rfl
                have t1 := ht.cell_ 1 rfl
                have t2 := ht.cell_ 2 rfl
                have t3 := ht.cell_ 3 rfl
                have t4 := ht.cell_ 4 rfl
                have t5 := ht.cell_ 5 rfl
                have t6 := ht.cell_ 6 rfl
                have t7 := ht.cell_ 7 rfl
                have z0 := hbb.cell_ 0 rfl
                have z1 := hbb.cell_ 1 rfl
                have z2 := hbb.cell_ 2 rfl
                have z3 := hbb.cell_ 3 rfl
                have z4 := hbb.cell_ 4 rfl
                have z5 := hbb.cell_ 5 rfl
                have z6 := hbb.cell_ 6 rfl
                have z7 := hbb.cell_ 7 rfl
                have z8 := hbb.cell_ 8 rfl
                have r0 := hrr.cell_ 0 rfl
                have r1 := hrr.cell_ 1 rfl
                have r2 := hrr.cell_ 2 rfl
                have r3 := hrr.cell_ 3 rfl
                have r4 := hrr.cell_ 4 rfl
                have r5 := hrr.cell_ 5 rfl
                have r6 := hrr.cell_ 6 rfl
                have r7 := hrr.cell_ 7 rfl
                have r8 := hrr.cell_ 8 rfl
                clear y0 y1 y2 y3 y4 t0 t1 t2 t3 t4 t5 t6 t7 z0 z1 z2 z3 z4 z5 z6 z7 z8 r0 r1 r2 r3 r4 r5 r6 r7 r8
                clear c6
                obtain ⟨MJ, hM, hZ⟩ := hX.items
                have hIt : ItV W { bs with length := bs.length - (q + n.length), faults := rl } (.agg #[.int .i64 bs.id, .int .i64 bs.root, .int .i64 bs.grade, .int .i64 bs.colour, .int .i64 bs.lot, .int .i64 bs.made, .int .i64 bs.width, .int .i64 (bs.length - (q + n.length)), .slice Ar rl.length cr]) := HVr.out
                go_upto_region 23 with (refine wpList_put_im rfl rfl _ _ _ _ rfl _ _ Try.underlying54 Try.underlying3 p.ri rfl hM bs.id (.agg #[.int .i64 bs.id, .int .i64 bs.root, .int .i64 bs.grade, .int .i64 bs.colour, .int .i64 bs.lot, .int .i64 bs.made, .int .i64 bs.width, .int .i64 (bs.length - (q + n.length)), .slice Ar rl.length cr]) rfl rfl ?_; intro W9 hM9 hg9)
                have hX9 : StA W9 p sC := by rw [H3E.out]; exact hX.put_item (x := { bs with length := bs.length - (q + n.length), faults := rl }) hg9 hZ hM9 hIt
                have hcc : Chg p.has W W9 := .of_grown hg9 (by simp [Fp.has])
                replace hC := hC.trans hcc
                replace hn := hn.chgS hX hcc (by decide)
                replace ht := ht.chgS hX hcc (by decide)
                replace hbb := hbb.chgS hX hcc (by decide)
                clear hX hcc hrr HVr H3E H2 HRL
                have hX := hX9
                clear hX9
                obtain ⟨W, rfl⟩ : ∃ X : World, X = W9 := ⟨_, rfl⟩
                have c10 := hX.blk.cell_ 10 (v := .int .i64 sC.last) rfl
                have e1 : IntKind.i64.wrap (sC.last + 1) = sC.last + 1 := IntWalk.i64_in _ (by have h := HCB.out.lC; rw [H3.out] at h; omega)
                go_upto_region 24 with (refine wpList_store_at rfl 3 _ _ rfl (.int .i64 (sC.last + 1)) hX.blk rfl rfl (by kernel_rfl) rfl (by simp [storeCells_]) rfl ?_; intro W3 hB3 hc3)
                have hX3 := hX.upd_blk (s' := { sC with last := sC.last + 1 }) hc3 hB3 (by simp [storeCells_]) rfl rfl rfl rfl
                replace hn := hn.chg1 hc3 (hn.ne_ hX.blk (by decide))
                replace ht := ht.chg1 hc3 (ht.ne_ hX.blk (by decide))
                replace hbb := hbb.chg1 hc3 (hbb.ne_ hX.blk (by decide))
                replace hC := hC.trans (hc3.mono fun k _ hk => .inl hk)
                clear hX hB3 hc3 c10 e1
                have hX := hX3
                clear hX3
                obtain ⟨W, rfl⟩ : ∃ X : World, X = W3 := ⟨_, rfl⟩
                try dsimp only [Act.put]
                have c10 := hX.blk.cell_ 10 (v := .int .i64 (sC.last + 1)) rfl
                have y0 := hn.cell_ 0 rfl
                have y1 := hn.cell_ 1 rfl
                have y2 := hn.cell_ 2 rfl
                have y3 := hn.cell_ 3 rfl
                have y4 := hn.cell_ 4 rfl
                have t0 := ht.cell_ 0 rfl
                have t1 := ht.cell_ 1 rfl
                have t2 := ht.cell_ 2 rfl
                have t3 := ht.cell_ 3 rfl
                have t4 := ht.cell_ 4 rfl
                have t5 := ht.cell_ 5 rfl
                have t6 := ht.cell_ 6 rfl
                have t7 := ht.cell_ 7 rfl
                have z0 := hbb.cell_ 0 rfl
                have z1 := hbb.cell_ 1 rfl
                have z2 := hbb.cell_ 2 rfl
                have z3 := hbb.cell_ 3 rfl
                have z4 := hbb.cell_ 4 rfl
                have z5 := hbb.cell_ 5 rfl
                have z6 := hbb.cell_ 6 rfl
                have z7 := hbb.cell_ 7 rfl
                have z8 := hbb.cell_ 8 rfl
                go_wp2_with fail
                have z_y0 := hide (fun w' (hb : Below W.heap.size W w') => Since.later hb y0)
                have z_y1 := hide (fun w' (hb : Below W.heap.size W w') => Since.later hb y1)
                have z_y2 := hide (fun w' (hb : Below W.heap.size W w') => Since.later hb y2)
                have z_y3 := hide (fun w' (hb : Below W.heap.size W w') => Since.later hb y3)
                have z_y4 := hide (fun w' (hb : Below W.heap.size W w') => Since.later hb y4)
                have z_t0 := hide (fun w' (hb : Below W.heap.size W w') => Since.later hb t0)
                have z_t1 := hide (fun w' (hb : Below W.heap.size W w') => Since.later hb t1)
                have z_t2 := hide (fun w' (hb : Below W.heap.size W w') => Since.later hb t2)
                have z_t3 := hide (fun w' (hb : Below W.heap.size W w') => Since.later hb t3)
                have z_t4 := hide (fun w' (hb : Below W.heap.size W w') => Since.later hb t4)
                have z_t5 := hide (fun w' (hb : Below W.heap.size W w') => Since.later hb t5)
                have z_t6 := hide (fun w' (hb : Below W.heap.size W w') => Since.later hb t6)
                have z_t7 := hide (fun w' (hb : Below W.heap.size W w') => Since.later hb t7)
                have z_z0 := hide (fun w' (hb : Below W.heap.size W w') => Since.later hb z0)
                have z_z1 := hide (fun w' (hb : Below W.heap.size W w') => Since.later hb z1)
                have z_z2 := hide (fun w' (hb : Below W.heap.size W w') => Since.later hb z2)
                have z_z3 := hide (fun w' (hb : Below W.heap.size W w') => Since.later hb z3)
                have z_z4 := hide (fun w' (hb : Below W.heap.size W w') => Since.later hb z4)
                have z_z5 := hide (fun w' (hb : Below W.heap.size W w') => Since.later hb z5)
                have z_z6 := hide (fun w' (hb : Below W.heap.size W w') => Since.later hb z6)
                have z_z7 := hide (fun w' (hb : Below W.heap.size W w') => Since.later hb z7)
                have z_z8 := hide (fun w' (hb : Below W.heap.size W w') => Since.later hb z8)
                have z_c10 := hide (fun w' (hb : Below W.heap.size W w') => Since.later hb c10)
                have hok : FldOk W ([⟨16, .ptr, (.cells #[.int .i64 0, .int .i64 0, .int .i64 0, .int .i64 0, .int .i64 0, .int .i64 0, .int .i64 0, .int .i64 0] 79), 17, (.cells #[.int .i64 (sC.last + 1), .int .i64 bs.root, .int .i64 lot, .int .i64 bs.grade, .int .i64 bs.colour, .int .i64 n.width, .int .i64 n.length, .int .i64 0] 79)⟩]) [] := FldOk.nil_
                refine wp_region_both 18 [0, 1, 2, 3, 4, 5, 6, 7, 8, 9, 10, 11, 12, 13, 14, 15] [16, 17] [⟨16, .ptr, (.cells #[.int .i64 0, .int .i64 0, .int .i64 0, .int .i64 0, .int .i64 0, .int .i64 0, .int .i64 0, .int .i64 0] 79), 17, (.cells #[.int .i64 (sC.last + 1), .int .i64 bs.root, .int .i64 lot, .int .i64 bs.grade, .int .i64 bs.colour, .int .i64 n.width, .int .i64 n.length, .int .i64 0] 79)⟩] [] (fun f hf => by cases hf) (by kernel_rfl) (by kernel_rfl) (by kernel_rfl) (by kernel_rfl) (by kernel_rfl) (by simp) ?_
                apply Exists.intro
                refine ⟨fun W1 hc0 => ?_, ?_⟩
                · have hb := hc0.nil_
                  have y_y0 := Since.cell (z_y0.out W1 hb)
                  have y_y1 := Since.cell (z_y1.out W1 hb)
                  have y_y2 := Since.cell (z_y2.out W1 hb)
                  have y_y3 := Since.cell (z_y3.out W1 hb)
                  have y_y4 := Since.cell (z_y4.out W1 hb)
                  have y_t0 := Since.cell (z_t0.out W1 hb)
                  have y_t1 := Since.cell (z_t1.out W1 hb)
                  have y_t2 := Since.cell (z_t2.out W1 hb)
                  have y_t3 := Since.cell (z_t3.out W1 hb)
                  have y_t4 := Since.cell (z_t4.out W1 hb)
                  have y_t5 := Since.cell (z_t5.out W1 hb)
                  have y_t6 := Since.cell (z_t6.out W1 hb)
                  have y_t7 := Since.cell (z_t7.out W1 hb)
                  have y_z0 := Since.cell (z_z0.out W1 hb)
                  have y_z1 := Since.cell (z_z1.out W1 hb)
                  have y_z2 := Since.cell (z_z2.out W1 hb)
                  have y_z3 := Since.cell (z_z3.out W1 hb)
                  have y_z4 := Since.cell (z_z4.out W1 hb)
                  have y_z5 := Since.cell (z_z5.out W1 hb)
                  have y_z6 := Since.cell (z_z6.out W1 hb)
                  have y_z7 := Since.cell (z_z7.out W1 hb)
                  have y_z8 := Since.cell (z_z8.out W1 hb)
                  have y_c10 := Since.cell (z_c10.out W1 hb)
                  replace hX := StA.below hX hb
                  replace hC := Chg.trans hC (Chg.of_below hb)
                  replace hn := hn.below hb hn.lt
                  replace ht := ht.below hb ht.lt
                  replace hbb := hbb.below hb hbb.lt
                  dsimp only [pick, List.filterMap, List.getElem?_cons_succ, List.getElem?_cons_zero]
                  iterate 15 (go_big_quiet_step (fail))
                  refine BigFrame.wpQuiet_want rfl (fun K hK => ⟨.agg #[.int .i64 (sC.last + 1), .int .i64 bs.root, .int .i64 lot, .int .i64 bs.grade, .int .i64 bs.colour, .int .i64 n.width, .int .i64 n.length, .int .i64 0], fun w0 _ => ?_, hK _ ?_⟩)
                  · unfold Oper.quietAt; rw [exec_bstruct rfl (by simp [Act.eval]) (run_piece (sC.last + 1) bs.root lot bs.grade bs.colour n.width n.length w0)]; exact ⟨rfl, rfl⟩
                  clear hK K
                  simp only [Act.put, List.setIfInBounds_toArray, List.set_cons_succ, List.set_cons_zero]
                  exact wpQuiet_nil rfl
                · refine ownWalk_alloc ⟨16, .ptr, (.cells #[.int .i64 0, .int .i64 0, .int .i64 0, .int .i64 0, .int .i64 0, .int .i64 0, .int .i64 0, .int .i64 0] 79), 17, (.cells #[.int .i64 (sC.last + 1), .int .i64 bs.root, .int .i64 lot, .int .i64 bs.grade, .int .i64 bs.colour, .int .i64 n.width, .int .i64 n.length, .int .i64 0] 79)⟩ hok (by kernel_rfl) rfl rfl rfl rfl (fun _ => rfl) (by simp) (by simp) (fun h => absurd h (by simp)) ?_
                  intro hob
                  simp only [Shape.val, List.setIfInBounds_toArray, List.set_cons_succ, List.set_cons_zero]
                  refine ownWalk_fill (cs := #[.int .i64 0, .int .i64 0, .int .i64 0, .int .i64 0, .int .i64 0, .int .i64 0, .int .i64 0, .int .i64 0]) (cs' := #[.int .i64 (sC.last + 1), .int .i64 bs.root, .int .i64 lot, .int .i64 bs.grade, .int .i64 bs.colour, .int .i64 n.width, .int .i64 n.length, .int .i64 0]) ⟨16, .ptr, (.cells #[.int .i64 0, .int .i64 0, .int .i64 0, .int .i64 0, .int .i64 0, .int .i64 0, .int .i64 0, .int .i64 0] 79), 17, (.cells #[.int .i64 (sC.last + 1), .int .i64 bs.root, .int .i64 lot, .int .i64 bs.grade, .int .i64 bs.colour, .int .i64 n.width, .int .i64 n.length, .int .i64 0] 79)⟩ hok (by kernel_rfl) rfl rfl rfl rfl rfl rfl rfl rfl (by kernel_rfl) rfl (by simp [Value.oneCell']) rfl rfl (by simp) (by simp) (by simp) rfl ?_ (by simp)
                  refine ownWalk_nil ?_
                  intro w' hc0 hD
                  have hb := hc0.nil_
                  obtain ⟨hoge, ho⟩ := hD.box.get (x := ⟨16, .ptr, (.cells #[.int .i64 0, .int .i64 0, .int .i64 0, .int .i64 0, .int .i64 0, .int .i64 0, .int .i64 0, .int .i64 0] 79), 17, (.cells #[.int .i64 (sC.last + 1), .int .i64 bs.root, .int .i64 lot, .int .i64 bs.grade, .int .i64 bs.colour, .int .i64 n.width, .int .i64 n.length, .int .i64 0] 79)⟩) (o := (.cells #[.int .i64 (sC.last + 1), .int .i64 bs.root, .int .i64 lot, .int .i64 bs.grade, .int .i64 bs.colour, .int .i64 n.width, .int .i64 n.length, .int .i64 0] 79)) (by simp) rfl rfl
                  replace ho : Blk _ _ _ _ := ho
                  clear hD
                  try simp only [List.drop_succ_cons, List.drop_zero]
                  replace c10 : w'.cell? _ = _ := z_c10.out w' hb
                  clear z_y0 z_y1 z_y2 z_y3 z_y4 z_t0 z_t1 z_t2 z_t3 z_t4 z_t5 z_t6 z_t7 z_z0 z_z1 z_z2 z_z3 z_z4 z_z5 z_z6 z_z7 z_z8 z_c10
                  clear y0 y1 y2 y3 y4 t0 t1 t2 t3 t4 t5 t6 t7 z0 z1 z2 z3 z4 z5 z6 z7 z8
                  replace hX := StA.below hX hb
                  replace hC := Chg.trans hC (Chg.of_below hb)
                  replace hn := hn.below hb hn.lt
                  replace ht := ht.below hb ht.lt
                  replace hbb := hbb.below hb hbb.lt
                  clear hb hok hc0
                  obtain ⟨W, rfl⟩ : ∃ W : World, W = w' := ⟨_, rfl⟩
                  have y0 := hn.cell_ 0 rfl
                  have y1 := hn.cell_ 1 rfl
                  have y2 := hn.cell_ 2 rfl
                  have y3 := hn.cell_ 3 rfl
                  have y4 := hn.cell_ 4 rfl
                  have t0 := ht.cell_ 0 rfl
                  have t1 := ht.cell_ 1 rfl
                  have t2 := ht.cell_ 2 rfl
                  have t3 := ht.cell_ 3 rfl
                  have t4 := ht.cell_ 4 rfl
                  have t5 := ht.cell_ 5 rfl
                  have t6 := ht.cell_ 6 rfl
                  have t7 := ht.cell_ 7 rfl
                  have z0 := hbb.cell_ 0 rfl
                  have z1 := hbb.cell_ 1 rfl
                  have z2 := hbb.cell_ 2 rfl
                  have z3 := hbb.cell_ 3 rfl
                  have z4 := hbb.cell_ 4 rfl
                  have z5 := hbb.cell_ 5 rfl
                  have z6 := hbb.cell_ 6 rfl
                  have z7 := hbb.cell_ 7 rfl
                  have z8 := hbb.cell_ 8 rfl
                  have o0 := ho.cell_ 0 rfl
                  have o1 := ho.cell_ 1 rfl
                  have o2 := ho.cell_ 2 rfl
                  have o3 := ho.cell_ 3 rfl
                  have o4 := ho.cell_ 4 rfl
                  have o5 := ho.cell_ 5 rfl
                  have o6 := ho.cell_ 6 rfl
                  have o7 := ho.cell_ 7 rfl
                  clear y0 y1 y2 y3 y4 t0 t1 t2 t3 t4 t5 t6 t7 z0 z1 z2 z3 z4 z5 z6 z7 z8 o0 o1 o2 o3 o4 o5 o6 o7
                  clear c10
                  have c8 := hX.blk.cell_ 8 (v := .map (some p.rq)) rfl
                  have y0 := hn.cell_ 0 rfl
                  have y1 := hn.cell_ 1 rfl
                  have y2 := hn.cell_ 2 rfl
                  have y3 := hn.cell_ 3 rfl
                  have y4 := hn.cell_ 4 rfl
                  have t0 := ht.cell_ 0 rfl
                  have t1 := ht.cell_ 1 rfl
                  have t2 := ht.cell_ 2 rfl
                  have t3 := ht.cell_ 3 rfl
                  have t4 := ht.cell_ 4 rfl
                  have t5 := ht.cell_ 5 rfl
                  have t6 := ht.cell_ 6 rfl
                  have t7 := ht.cell_ 7 rfl
                  have z0 := hbb.cell_ 0 rfl
                  have z1 := hbb.cell_ 1 rfl
                  have z2 := hbb.cell_ 2 rfl
                  have z3 := hbb.cell_ 3 rfl
                  have z4 := hbb.cell_ 4 rfl
                  have z5 := hbb.cell_ 5 rfl
                  have z6 := hbb.cell_ 6 rfl
                  have z7 := hbb.cell_ 7 rfl
                  have z8 := hbb.cell_ 8 rfl
                  have o0 := ho.cell_ 0 rfl
                  have o1 := ho.cell_ 1 rfl
                  have o2 := ho.cell_ 2 rfl
                  have o3 := ho.cell_ 3 rfl
                  have o4 := ho.cell_ 4 rfl
                  have o5 := ho.cell_ 5 rfl
                  have o6 := ho.cell_ 6 rfl
                  have o7 := ho.cell_ 7 rfl
                  go_wp2_with fail
                  refine wp_region_quiet_tail (C := fun w' => ∃ u : Since W, w' = u.w) 8 (by kernel_rfl) (by kernel_rfl) (Since.start W) ?_
                  simp only [List.take_succ_cons, List.take_zero, List.drop_succ_cons, List.drop_zero]
                  have y_y0 := Since.cell y0
                  have y_y1 := Since.cell y1
                  have y_y2 := Since.cell y2
                  have y_y3 := Since.cell y3
                  have y_y4 := Since.cell y4
                  have y_t0 := Since.cell t0
                  have y_t1 := Since.cell t1
                  have y_t2 := Since.cell t2
                  have y_t3 := Since.cell t3
                  have y_t4 := Since.cell t4
                  have y_t5 := Since.cell t5
                  have y_t6 := Since.cell t6
                  have y_t7 := Since.cell t7
                  have y_z0 := Since.cell z0
                  have y_z1 := Since.cell z1
                  have y_z2 := Since.cell z2
                  have y_z3 := Since.cell z3
                  have y_z4 := Since.cell z4
                  have y_z5 := Since.cell z5
                  have y_z6 := Since.cell z6
                  have y_z7 := Since.cell z7
                  have y_z8 := Since.cell z8
                  have y_o0 := Since.cell o0
                  have y_o1 := Since.cell o1
                  have y_o2 := Since.cell o2
                  have y_o3 := Since.cell o3
                  have y_o4 := Since.cell o4
                  have y_o5 := Since.cell o5
                  have y_o6 := Since.cell o6
                  have y_o7 := Since.cell o7
                  have y_c8 := Since.cell c8
                  clear y0 y1 y2 y3 y4 t0 t1 t2 t3 t4 t5 t6 t7 z0 z1 z2 z3 z4 z5 z6 z7 z8 o0 o1 o2 o3 o4 o5 o6 o7
                  repeat (go_big_quiet_step ((fail)))
                  refine wpQuiet_nil ?_
                  rintro W ⟨⟨_, hb⟩, rfl⟩
                  try dsimp only at hb ⊢
                  replace c8 : W.cell? _ = _ := y_c8 ⟨W, hb⟩
                  clear y_y0 y_y1 y_y2 y_y3 y_y4 y_t0 y_t1 y_t2 y_t3 y_t4 y_t5 y_t6 y_t7 y_z0 y_z1 y_z2 y_z3 y_z4 y_z5 y_z6 y_z7 y_z8 y_o0 y_o1 y_o2 y_o3 y_o4 y_o5 y_o6 y_o7 y_c8
                  replace hX := StA.below hX hb
                  replace hC := Chg.trans hC (Chg.of_below hb)
                  replace hn := hn.below hb hn.lt
                  replace ht := ht.below hb ht.lt
                  replace hbb := hbb.below hb hbb.lt
                  replace ho := ho.below hb ho.lt
                  clear hb
                  have y0 := hn.cell_ 0 rfl
                  have y1 := hn.cell_ 1 rfl
                  have y2 := hn.cell_ 2 rfl
                  have y3 := hn.cell_ 3 rfl
                  have y4 := hn.cell_ 4 rfl
                  have t0 := ht.cell_ 0 rfl
                  have t1 := ht.cell_ 1 rfl
                  have t2 := ht.cell_ 2 rfl
                  have t3 := ht.cell_ 3 rfl
                  have t4 := ht.cell_ 4 rfl
                  have t5 := ht.cell_ 5 rfl
                  have t6 := ht.cell_ 6 rfl
                  have t7 := ht.cell_ 7 rfl
                  have z0 := hbb.cell_ 0 rfl
                  have z1 := hbb.cell_ 1 rfl
                  have z2 := hbb.cell_ 2 rfl
                  have z3 := hbb.cell_ 3 rfl
                  have z4 := hbb.cell_ 4 rfl
                  have z5 := hbb.cell_ 5 rfl
                  have z6 := hbb.cell_ 6 rfl
                  have z7 := hbb.cell_ 7 rfl
                  have z8 := hbb.cell_ 8 rfl
                  have o0 := ho.cell_ 0 rfl
                  have o1 := ho.cell_ 1 rfl
                  have o2 := ho.cell_ 2 rfl
                  have o3 := ho.cell_ 3 rfl
                  have o4 := ho.cell_ 4 rfl
                  have o5 := ho.cell_ 5 rfl
                  have o6 := ho.cell_ 6 rfl
                  have o7 := ho.cell_ 7 rfl
                  clear y0 y1 y2 y3 y4 t0 t1 t2 t3 t4 t5 t6 t7 z0 z1 z2 z3 z4 z5 z6 z7 z8 o0 o1 o2 o3 o4 o5 o6 o7
                  clear c8
                  go_upto_region 26 with (refine wpList_put_im rfl rfl _ _ _ _ rfl _ _ Try.underlying33 Try.underlying3 p.rq rfl hX.parent (sC.last + 1) (.int .i64 bs.id) rfl rfl ?_; intro W6 hM6 hg6)
                  have hX6 := hX.upd_parent (P' := put sC.parent (sC.last + 1) bs.id) hg6 (by rw [← put_kv]; exact hM6)
                  have hcc : Chg p.has W W6 := .of_grown hg6 (by simp [Fp.has])
                  replace ho := ho.chgS hX hcc (by decide)
                  replace hC := hC.trans hcc
                  replace hn := hn.chgS hX hcc (by decide)
                  replace ht := ht.chgS hX hcc (by decide)
                  replace hbb := hbb.chgS hX hcc (by decide)
                  clear hX hM6 hg6 hcc
                  have hX := hX6
                  clear hX6
                  obtain ⟨W, rfl⟩ : ∃ X : World, X = W6 := ⟨_, rfl⟩
                  have c7 := hX.blk.cell_ 7 (v := .map (some p.rp)) rfl
                  have y0 := hn.cell_ 0 rfl
                  have y1 := hn.cell_ 1 rfl
                  have y2 := hn.cell_ 2 rfl
                  have y3 := hn.cell_ 3 rfl
                  have y4 := hn.cell_ 4 rfl
                  have t0 := ht.cell_ 0 rfl
                  have t1 := ht.cell_ 1 rfl
                  have t2 := ht.cell_ 2 rfl
                  have t3 := ht.cell_ 3 rfl
                  have t4 := ht.cell_ 4 rfl
                  have t5 := ht.cell_ 5 rfl
                  have t6 := ht.cell_ 6 rfl
                  have t7 := ht.cell_ 7 rfl
                  have z0 := hbb.cell_ 0 rfl
                  have z1 := hbb.cell_ 1 rfl
                  have z2 := hbb.cell_ 2 rfl
                  have z3 := hbb.cell_ 3 rfl
                  have z4 := hbb.cell_ 4 rfl
                  have z5 := hbb.cell_ 5 rfl
                  have z6 := hbb.cell_ 6 rfl
                  have z7 := hbb.cell_ 7 rfl
                  have z8 := hbb.cell_ 8 rfl
                  have o0 := ho.cell_ 0 rfl
                  have o1 := ho.cell_ 1 rfl
                  have o2 := ho.cell_ 2 rfl
                  have o3 := ho.cell_ 3 rfl
                  have o4 := ho.cell_ 4 rfl
                  have o5 := ho.cell_ 5 rfl
                  have o6 := ho.cell_ 6 rfl
                  have o7 := ho.cell_ 7 rfl
                  go_wp2_with fail
                  refine wp_region_quiet_tail (C := fun w' => ∃ u : Since W, w' = u.w) 7 (by kernel_rfl) (by kernel_rfl) (Since.start W) ?_
                  simp only [List.take_succ_cons, List.take_zero, List.drop_succ_cons, List.drop_zero]
                  have y_y0 := Since.cell y0
                  have y_y1 := Since.cell y1
                  have y_y2 := Since.cell y2
                  have y_y3 := Since.cell y3
                  have y_y4 := Since.cell y4
                  have y_t0 := Since.cell t0
                  have y_t1 := Since.cell t1
                  have y_t2 := Since.cell t2
                  have y_t3 := Since.cell t3
                  have y_t4 := Since.cell t4
                  have y_t5 := Since.cell t5
                  have y_t6 := Since.cell t6
                  have y_t7 := Since.cell t7
                  have y_z0 := Since.cell z0
                  have y_z1 := Since.cell z1
                  have y_z2 := Since.cell z2
                  have y_z3 := Since.cell z3
                  have y_z4 := Since.cell z4
                  have y_z5 := Since.cell z5
                  have y_z6 := Since.cell z6
                  have y_z7 := Since.cell z7
                  have y_z8 := Since.cell z8
                  have y_o0 := Since.cell o0
                  have y_o1 := Since.cell o1
                  have y_o2 := Since.cell o2
                  have y_o3 := Since.cell o3
                  have y_o4 := Since.cell o4
                  have y_o5 := Since.cell o5
                  have y_o6 := Since.cell o6
                  have y_o7 := Since.cell o7
                  have y_c7 := Since.cell c7
                  clear y0 y1 y2 y3 y4 t0 t1 t2 t3 t4 t5 t6 t7 z0 z1 z2 z3 z4 z5 z6 z7 z8 o0 o1 o2 o3 o4 o5 o6 o7
                  repeat (go_big_quiet_step ((fail)))
                  refine wpQuiet_nil ?_
                  rintro W ⟨⟨_, hb⟩, rfl⟩
                  try dsimp only at hb ⊢
                  replace c7 : W.cell? _ = _ := y_c7 ⟨W, hb⟩
                  clear y_y0 y_y1 y_y2 y_y3 y_y4 y_t0 y_t1 y_t2 y_t3 y_t4 y_t5 y_t6 y_t7 y_z0 y_z1 y_z2 y_z3 y_z4 y_z5 y_z6 y_z7 y_z8 y_o0 y_o1 y_o2 y_o3 y_o4 y_o5 y_o6 y_o7 y_c7
                  replace hX := StA.below hX hb
                  replace hC := Chg.trans hC (Chg.of_below hb)
                  replace hn := hn.below hb hn.lt
                  replace ht := ht.below hb ht.lt
                  replace hbb := hbb.below hb hbb.lt
                  replace ho := ho.below hb ho.lt
                  clear hb
                  have y0 := hn.cell_ 0 rfl
                  have y1 := hn.cell_ 1 rfl
                  have y2 := hn.cell_ 2 rfl
                  have y3 := hn.cell_ 3 rfl
                  have y4 := hn.cell_ 4 rfl
                  have t0 := ht.cell_ 0 rfl
                  have t1 := ht.cell_ 1 rfl
                  have t2 := ht.cell_ 2 rfl
                  have t3 := ht.cell_ 3 rfl
                  have t4 := ht.cell_ 4 rfl
                  have t5 := ht.cell_ 5 rfl
                  have t6 := ht.cell_ 6 rfl
                  have t7 := ht.cell_ 7 rfl
                  have z0 := hbb.cell_ 0 rfl
                  have z1 := hbb.cell_ 1 rfl
                  have z2 := hbb.cell_ 2 rfl
                  have z3 := hbb.cell_ 3 rfl
                  have z4 := hbb.cell_ 4 rfl
                  have z5 := hbb.cell_ 5 rfl
                  have z6 := hbb.cell_ 6 rfl
                  have z7 := hbb.cell_ 7 rfl
                  have z8 := hbb.cell_ 8 rfl
                  have o0 := ho.cell_ 0 rfl
                  have o1 := ho.cell_ 1 rfl
                  have o2 := ho.cell_ 2 rfl
                  have o3 := ho.cell_ 3 rfl
                  have o4 := ho.cell_ 4 rfl
                  have o5 := ho.cell_ 5 rfl
                  have o6 := ho.cell_ 6 rfl
                  have o7 := ho.cell_ 7 rfl
                  clear y0 y1 y2 y3 y4 t0 t1 t2 t3 t4 t5 t6 t7 z0 z1 z2 z3 z4 z5 z6 z7 z8 o0 o1 o2 o3 o4 o5 o6 o7
                  clear c7
                  go_upto_region 27 with (refine wpList_put_im rfl rfl _ _ _ _ rfl _ _ Try.underlying55 Try.underlying3 p.rp rfl hX.pieces (sC.last + 1) (.agg #[.int .i64 (sC.last + 1), .int .i64 bs.root, .int .i64 lot, .int .i64 bs.grade, .int .i64 bs.colour, .int .i64 n.width, .int .i64 n.length, .int .i64 0]) rfl rfl ?_; intro W6 hM6 hg6)
                  have hX6 := hX.put_piece (x := pieceF sC n lot bs) hg6 hM6
                  have hcc : Chg p.has W W6 := .of_grown hg6 (by simp [Fp.has])
                  replace ho := ho.chgS hX hcc (by decide)
                  replace hC := hC.trans hcc
                  replace hn := hn.chgS hX hcc (by decide)
                  replace ht := ht.chgS hX hcc (by decide)
                  replace hbb := hbb.chgS hX hcc (by decide)
                  clear hX hM6 hg6 hcc
                  have hX := hX6
                  clear hX6
                  obtain ⟨W, rfl⟩ : ∃ X : World, X = W6 := ⟨_, rfl⟩
                  have o0 := ho.cell_ 0 rfl
                  have o1 := ho.cell_ 1 rfl
                  have o2 := ho.cell_ 2 rfl
                  have o3 := ho.cell_ 3 rfl
                  have o4 := ho.cell_ 4 rfl
                  have o5 := ho.cell_ 5 rfl
                  have o6 := ho.cell_ 6 rfl
                  have o7 := ho.cell_ 7 rfl
                  go_wp2_with (refine wpList_store_blk rfl 79 _ _ rfl #[.int .i64 (sC.last + 1), .int .i64 bs.root, .int .i64 lot, .int .i64 bs.grade, .int .i64 bs.colour, .int .i64 n.width, .int .i64 n.length, .int .i64 0] ht rfl rfl (by kernel_rfl) rfl (by simp [Value.oneCell']) ?_; intro W9 ht9 hc9; have q0 := ht9.cell_ 0 rfl; have q1 := ht9.cell_ 1 rfl; have q2 := ht9.cell_ 2 rfl; have q3 := ht9.cell_ 3 rfl; have q4 := ht9.cell_ 4 rfl; have q5 := ht9.cell_ 5 rfl; have q6 := ht9.cell_ 6 rfl; have q7 := ht9.cell_ 7 rfl)
                  have hX9 := hX.chg1 hc9 ht (by decide) (by decide)
                  have hC9 : Chg p.has w W9 := hC.of_new hc9 (by have := HB0.out; omega)
                  refine bodyPost_ret (v := .tuple #[.agg #[.int .i64 (sC.last + 1), .int .i64 bs.root, .int .i64 lot, .int .i64 bs.grade, .int .i64 bs.colour, .int .i64 n.width, .int .i64 n.length, .int .i64 0], .bool true]) (by simp [results, Try.results47, go_sem, q0, q1, q2, q3, q4, q5, q6, q7]) rfl ?_
                  unfold CutPost
                  rw [HES.out, H3.out]
                  exact ⟨rfl, hX9, hC9⟩
              · have d1 : decide (sB.rules.minLength ≤ bs.length - (q + n.length)) = false := by simpa using h1
                obtain ⟨sC, hs3⟩ : ∃ t, cutC s n bs q = t := ⟨_, rfl⟩
                have h3 : sC = { sB with waste := sB.waste + bs.width * (bs.length - (q + n.length)) } := by rw [← hs3, ← H2.out]; unfold cutC restF; rw [if_neg (by rw [H2.out]; exact h1)]
                have H3 := hide hs3
                have H3E := hide h3
                clear h1 h3 hs3
                go_wp2_with fail
                refine wp_region_quiet (C := fun w' => ∃ u : Since W, w' = u.w) (by kernel_rfl) (by kernel_rfl) (Since.start W) ?_
                dsimp only
                have y_y0 := Since.cell y0
                have y_y1 := Since.cell y1
                have y_y2 := Since.cell y2
                have y_y3 := Since.cell y3
                have y_y4 := Since.cell y4
                have y_t0 := Since.cell t0
                have y_t1 := Since.cell t1
                have y_t2 := Since.cell t2
                have y_t3 := Since.cell t3
                have y_t4 := Since.cell t4
                have y_t5 := Since.cell t5
                have y_t6 := Since.cell t6
                have y_t7 := Since.cell t7
                have y_z0 := Since.cell z0
                have y_z1 := Since.cell z1
                have y_z2 := Since.cell z2
                have y_z3 := Since.cell z3
                have y_z4 := Since.cell z4
                have y_z5 := Since.cell z5
                have y_z6 := Since.cell z6
                have y_z7 := Since.cell z7
                have y_z8 := Since.cell z8
                have y_r0 := Since.cell r0
                have y_r1 := Since.cell r1
                have y_r2 := Since.cell r2
                have y_r3 := Since.cell r3
                have y_r4 := Since.cell r4
                have y_r5 := Since.cell r5
                have y_r6 := Since.cell r6
                have y_r7 := Since.cell r7
                have y_r8 := Since.cell r8
                have y_c1 := Since.cell c1
                clear y0 y1 y2 y3 y4 t0 t1 t2 t3 t4 t5 t6 t7 z0 z1 z2 z3 z4 z5 z6 z7 z8 r0 r1 r2 r3 r4 r5 r6 r7 r8
                repeat (go_big_quiet_step ((fail)))
                refine wpQuiet_nil ?_
                rintro W ⟨⟨_, hb⟩, rfl⟩
                try dsimp only at hb ⊢
                replace c1 : W.cell? _ = _ := y_c1 ⟨W, hb⟩
                clear y_y0 y_y1 y_y2 y_y3 y_y4 y_t0 y_t1 y_t2 y_t3 y_t4 y_t5 y_t6 y_t7 y_z0 y_z1 y_z2 y_z3 y_z4 y_z5 y_z6 y_z7 y_z8 y_r0 y_r1 y_r2 y_r3 y_r4 y_r5 y_r6 y_r7 y_r8 y_c1
                replace hX := StA.below hX hb
                replace hC := Chg.trans hC (Chg.of_below hb)
                replace hn := hn.below hb hn.lt
                replace ht := ht.below hb ht.lt
                replace hbb := hbb.below hb hbb.lt
                replace hrr := hrr.below hb hrr.lt
                replace HVr := hide (ItV.below (Hid.out HVr) hb)
                clear hb
                have y0 := hn.cell_ 0 rfl
                have y1 := hn.cell_ 1 rfl
                have y2 := hn.cell_ 2 rfl
                have y3 := hn.cell_ 3 rfl
                have y4 := hn.cell_ 4 rfl
                have t0 := ht.cell_ 0 rfl
                have t1 := ht.cell_ 1 rfl
                have t2 := ht.cell_ 2 rfl
                have t3 := ht.cell_ 3 rfl
                have t4 := ht.cell_ 4 rfl
                have t5 := ht.cell_ 5 rfl
                have t6 := ht.cell_ 6 rfl
                have t7 := ht.cell_ 7 rfl
                have z0 := hbb.cell_ 0 rfl
                have z1 := hbb.cell_ 1 rfl
                have z2 := hbb.cell_ 2 rfl
                have z3 := hbb.cell_ 3 rfl
                have z4 := hbb.cell_ 4 rfl
                have z5 := hbb.cell_ 5 rfl
                have z6 := hbb.cell_ 6 rfl
                have z7 := hbb.cell_ 7 rfl
                have z8 := hbb.cell_ 8 rfl
                have r0 := hrr.cell_ 0 rfl
                have r1 := hrr.cell_ 1 rfl
                have r2 := hrr.cell_ 2 rfl
                have r3 := hrr.cell_ 3 rfl
                have r4 := hrr.cell_ 4 rfl
                have r5 := hrr.cell_ 5 rfl
                have r6 := hrr.cell_ 6 rfl
                have r7 := hrr.cell_ 7 rfl
                have r8 := hrr.cell_ 8 rfl
                clear y0 y1 y2 y3 y4 t0 t1 t2 t3 t4 t5 t6 t7 z0 z1 z2 z3 z4 z5 z6 z7 z8 r0 r1 r2 r3 r4 r5 r6 r7 r8
                clear d1 c1
                have c12 := hX.blk.cell_ 12 (v := .int .i64 sB.waste) rfl
                have e1 : IntKind.i64.wrap (bs.width * (bs.length - (q + n.length))) = bs.width * (bs.length - (q + n.length)) := IntWalk.i64_in _ (by have := HCB.out.aC; omega)
                have e2 : IntKind.i64.wrap (sB.waste + bs.width * (bs.length - (q + n.length))) = sB.waste + bs.width * (bs.length - (q + n.length)) := IntWalk.i64_in _ (by have := HCB.out.aC; have h := HCB.out.wB; rw [H2.out] at h; omega)
                have y0 := hn.cell_ 0 rfl
                have y1 := hn.cell_ 1 rfl
                have y2 := hn.cell_ 2 rfl
                have y3 := hn.cell_ 3 rfl
                have y4 := hn.cell_ 4 rfl
                have t0 := ht.cell_ 0 rfl
                have t1 := ht.cell_ 1 rfl
                have t2 := ht.cell_ 2 rfl
                have t3 := ht.cell_ 3 rfl
                have t4 := ht.cell_ 4 rfl
                have t5 := ht.cell_ 5 rfl
                have t6 := ht.cell_ 6 rfl
                have t7 := ht.cell_ 7 rfl
                have z0 := hbb.cell_ 0 rfl
                have z1 := hbb.cell_ 1 rfl
                have z2 := hbb.cell_ 2 rfl
                have z3 := hbb.cell_ 3 rfl
                have z4 := hbb.cell_ 4 rfl
                have z5 := hbb.cell_ 5 rfl
                have z6 := hbb.cell_ 6 rfl
                have z7 := hbb.cell_ 7 rfl
                have z8 := hbb.cell_ 8 rfl
                have r0 := hrr.cell_ 0 rfl
                have r1 := hrr.cell_ 1 rfl
                have r2 := hrr.cell_ 2 rfl
                have r3 := hrr.cell_ 3 rfl
                have r4 := hrr.cell_ 4 rfl
                have r5 := hrr.cell_ 5 rfl
                have r6 := hrr.cell_ 6 rfl
                have r7 := hrr.cell_ 7 rfl
                have r8 := hrr.cell_ 8 rfl
                go_wp2_with fail
                refine wp_region_quiet_tail (C := fun w' => ∃ u : Since W, w' = u.w) 12 (by kernel_rfl) (by kernel_rfl) (Since.start W) ?_
                simp only [List.take_succ_cons, List.take_zero, List.drop_succ_cons, List.drop_zero]
                have y_y0 := Since.cell y0
                have y_y1 := Since.cell y1
                have y_y2 := Since.cell y2
                have y_y3 := Since.cell y3
                have y_y4 := Since.cell y4
                have y_t0 := Since.cell t0
                have y_t1 := Since.cell t1
                have y_t2 := Since.cell t2
                have y_t3 := Since.cell t3
                have y_t4 := Since.cell t4
                have y_t5 := Since.cell t5
                have y_t6 := Since.cell t6
                have y_t7 := Since.cell t7
                have y_z0 := Since.cell z0
                have y_z1 := Since.cell z1
                have y_z2 := Since.cell z2
                have y_z3 := Since.cell z3
                have y_z4 := Since.cell z4
                have y_z5 := Since.cell z5
                have y_z6 := Since.cell z6
                have y_z7 := Since.cell z7
                have y_z8 := Since.cell z8
                have y_r0 := Since.cell r0
                have y_r1 := Since.cell r1
                have y_r2 := Since.cell r2
                have y_r3 := Since.cell r3
                have y_r4 := Since.cell r4
                have y_r5 := Since.cell r5
                have y_r6 := Since.cell r6
                have y_r7 := Since.cell r7
                have y_r8 := Since.cell r8
                have y_c12 := Since.cell c12
                clear y0 y1 y2 y3 y4 t0 t1 t2 t3 t4 t5 t6 t7 z0 z1 z2 z3 z4 z5 z6 z7 z8 r0 r1 r2 r3 r4 r5 r6 r7 r8
                repeat (go_big_quiet_step ((fail)))
                refine wpQuiet_nil ?_
                rintro W ⟨⟨_, hb⟩, rfl⟩
                try dsimp only at hb ⊢
                replace c12 : W.cell? _ = _ := y_c12 ⟨W, hb⟩
                clear y_y0 y_y1 y_y2 y_y3 y_y4 y_t0 y_t1 y_t2 y_t3 y_t4 y_t5 y_t6 y_t7 y_z0 y_z1 y_z2 y_z3 y_z4 y_z5 y_z6 y_z7 y_z8 y_r0 y_r1 y_r2 y_r3 y_r4 y_r5 y_r6 y_r7 y_r8 y_c12
                replace hX := StA.below hX hb
                replace hC := Chg.trans hC (Chg.of_below hb)
                replace hn := hn.below hb hn.lt
                replace ht := ht.below hb ht.lt
                replace hbb := hbb.below hb hbb.lt
                replace hrr := hrr.below hb hrr.lt
                replace HVr := hide (ItV.below (Hid.out HVr) hb)
                clear hb
                have y0 := hn.cell_ 0 rfl
                have y1 := hn.cell_ 1 rfl
                have y2 := hn.cell_ 2 rfl
                have y3 := hn.cell_ 3 rfl
                have y4 := hn.cell_ 4 rfl
                have t0 := ht.cell_ 0 rfl
                have t1 := ht.cell_ 1 rfl
                have t2 := ht.cell_ 2 rfl
                have t3 := ht.cell_ 3 rfl
                have t4 := ht.cell_ 4 rfl
                have t5 := ht.cell_ 5 rfl
                have t6 := ht.cell_ 6 rfl
                have t7 := ht.cell_ 7 rfl
                have z0 := hbb.cell_ 0 rfl
                have z1 := hbb.cell_ 1 rfl
                have z2 := hbb.cell_ 2 rfl
                have z3 := hbb.cell_ 3 rfl
                have z4 := hbb.cell_ 4 rfl
                have z5 := hbb.cell_ 5 rfl
                have z6 := hbb.cell_ 6 rfl
                have z7 := hbb.cell_ 7 rfl
                have z8 := hbb.cell_ 8 rfl
                have r0 := hrr.cell_ 0 rfl
                have r1 := hrr.cell_ 1 rfl
                have r2 := hrr.cell_ 2 rfl
                have r3 := hrr.cell_ 3 rfl
                have r4 := hrr.cell_ 4 rfl
                have r5 := hrr.cell_ 5 rfl
                have r6 := hrr.cell_ 6 rfl
                have r7 := hrr.cell_ 7 rfl
                have r8 := hrr.cell_ 8 rfl
                clear y0 y1 y2 y3 y4 t0 t1 t2 t3 t4 t5 t6 t7 z0 z1 z2 z3 z4 z5 z6 z7 z8 r0 r1 r2 r3 r4 r5 r6 r7 r8
                clear c12 e1
                go_upto_region 23 with (refine wpList_store_at rfl 3 _ _ rfl (.int .i64 (sB.waste + bs.width * (bs.length - (q + n.length)))) hX.blk rfl rfl (by kernel_rfl) rfl (by simp [storeCells_]) rfl ?_; intro W9 hB9 hc9)
                have hX9 : StA W9 p sC := by rw [H3E.out]; exact hX.upd_blk (s' := { sB with waste := sB.waste + bs.width * (bs.length - (q + n.length)) }) hc9 hB9 (by simp [storeCells_]) rfl rfl rfl rfl
                have hcc : Chg p.has W W9 := hc9.mono fun k _ hk => .inl hk
                clear hB9 hc9 e2
                replace hC := hC.trans hcc
                replace hn := hn.chgS hX hcc (by decide)
                replace ht := ht.chgS hX hcc (by decide)
                replace hbb := hbb.chgS hX hcc (by decide)
                clear hX hcc hrr HVr H3E H2 HRL
                have hX := hX9
                clear hX9
                obtain ⟨W, rfl⟩ : ∃ X : World, X = W9 := ⟨_, rfl⟩
                have c10 := hX.blk.cell_ 10 (v := .int .i64 sC.last) rfl
                have e1 : IntKind.i64.wrap (sC.last + 1) = sC.last + 1 := IntWalk.i64_in _ (by have h := HCB.out.lC; rw [H3.out] at h; omega)
                go_upto_region 24 with (refine wpList_store_at rfl 3 _ _ rfl (.int .i64 (sC.last + 1)) hX.blk rfl rfl (by kernel_rfl) rfl (by simp [storeCells_]) rfl ?_; intro W3 hB3 hc3)
                have hX3 := hX.upd_blk (s' := { sC with last := sC.last + 1 }) hc3 hB3 (by simp [storeCells_]) rfl rfl rfl rfl
                replace hn := hn.chg1 hc3 (hn.ne_ hX.blk (by decide))
                replace ht := ht.chg1 hc3 (ht.ne_ hX.blk (by decide))
                replace hbb := hbb.chg1 hc3 (hbb.ne_ hX.blk (by decide))
                replace hC := hC.trans (hc3.mono fun k _ hk => .inl hk)
                clear hX hB3 hc3 c10 e1
                have hX := hX3
                clear hX3
                obtain ⟨W, rfl⟩ : ∃ X : World, X = W3 := ⟨_, rfl⟩
                try dsimp only [Act.put]
                have c10 := hX.blk.cell_ 10 (v := .int .i64 (sC.last + 1)) rfl
                have y0 := hn.cell_ 0 rfl
                have y1 := hn.cell_ 1 rfl
                have y2 := hn.cell_ 2 rfl
                have y3 := hn.cell_ 3 rfl
                have y4 := hn.cell_ 4 rfl
                have t0 := ht.cell_ 0 rfl
                have t1 := ht.cell_ 1 rfl
                have t2 := ht.cell_ 2 rfl
                have t3 := ht.cell_ 3 rfl
                have t4 := ht.cell_ 4 rfl
                have t5 := ht.cell_ 5 rfl
                have t6 := ht.cell_ 6 rfl
                have t7 := ht.cell_ 7 rfl
                have z0 := hbb.cell_ 0 rfl
                have z1 := hbb.cell_ 1 rfl
                have z2 := hbb.cell_ 2 rfl
                have z3 := hbb.cell_ 3 rfl
                have z4 := hbb.cell_ 4 rfl
                have z5 := hbb.cell_ 5 rfl
                have z6 := hbb.cell_ 6 rfl
                have z7 := hbb.cell_ 7 rfl
                have z8 := hbb.cell_ 8 rfl
                go_wp2_with fail
                have z_y0 := hide (fun w' (hb : Below W.heap.size W w') => Since.later hb y0)
                have z_y1 := hide (fun w' (hb : Below W.heap.size W w') => Since.later hb y1)
                have z_y2 := hide (fun w' (hb : Below W.heap.size W w') => Since.later hb y2)
                have z_y3 := hide (fun w' (hb : Below W.heap.size W w') => Since.later hb y3)
                have z_y4 := hide (fun w' (hb : Below W.heap.size W w') => Since.later hb y4)
                have z_t0 := hide (fun w' (hb : Below W.heap.size W w') => Since.later hb t0)
                have z_t1 := hide (fun w' (hb : Below W.heap.size W w') => Since.later hb t1)
                have z_t2 := hide (fun w' (hb : Below W.heap.size W w') => Since.later hb t2)
                have z_t3 := hide (fun w' (hb : Below W.heap.size W w') => Since.later hb t3)
                have z_t4 := hide (fun w' (hb : Below W.heap.size W w') => Since.later hb t4)
                have z_t5 := hide (fun w' (hb : Below W.heap.size W w') => Since.later hb t5)
                have z_t6 := hide (fun w' (hb : Below W.heap.size W w') => Since.later hb t6)
                have z_t7 := hide (fun w' (hb : Below W.heap.size W w') => Since.later hb t7)
                have z_z0 := hide (fun w' (hb : Below W.heap.size W w') => Since.later hb z0)
                have z_z1 := hide (fun w' (hb : Below W.heap.size W w') => Since.later hb z1)
                have z_z2 := hide (fun w' (hb : Below W.heap.size W w') => Since.later hb z2)
                have z_z3 := hide (fun w' (hb : Below W.heap.size W w') => Since.later hb z3)
                have z_z4 := hide (fun w' (hb : Below W.heap.size W w') => Since.later hb z4)
                have z_z5 := hide (fun w' (hb : Below W.heap.size W w') => Since.later hb z5)
                have z_z6 := hide (fun w' (hb : Below W.heap.size W w') => Since.later hb z6)
                have z_z7 := hide (fun w' (hb : Below W.heap.size W w') => Since.later hb z7)
                have z_z8 := hide (fun w' (hb : Below W.heap.size W w') => Since.later hb z8)
                have z_c10 := hide (fun w' (hb : Below W.heap.size W w') => Since.later hb c10)
                have hok : FldOk W ([⟨16, .ptr, (.cells #[.int .i64 0, .int .i64 0, .int .i64 0, .int .i64 0, .int .i64 0, .int .i64 0, .int .i64 0, .int .i64 0] 79), 17, (.cells #[.int .i64 (sC.last + 1), .int .i64 bs.root, .int .i64 lot, .int .i64 bs.grade, .int .i64 bs.colour, .int .i64 n.width, .int .i64 n.length, .int .i64 0] 79)⟩]) [] := FldOk.nil_
                refine wp_region_both 18 [0, 1, 2, 3, 4, 5, 6, 7, 8, 9, 10, 11, 12, 13, 14, 15] [16, 17] [⟨16, .ptr, (.cells #[.int .i64 0, .int .i64 0, .int .i64 0, .int .i64 0, .int .i64 0, .int .i64 0, .int .i64 0, .int .i64 0] 79), 17, (.cells #[.int .i64 (sC.last + 1), .int .i64 bs.root, .int .i64 lot, .int .i64 bs.grade, .int .i64 bs.colour, .int .i64 n.width, .int .i64 n.length, .int .i64 0] 79)⟩] [] (fun f hf => by cases hf) (by kernel_rfl) (by kernel_rfl) (by kernel_rfl) (by kernel_rfl) (by kernel_rfl) (by simp) ?_
                apply Exists.intro
                refine ⟨fun W1 hc0 => ?_, ?_⟩
                · have hb := hc0.nil_
                  have y_y0 := Since.cell (z_y0.out W1 hb)
                  have y_y1 := Since.cell (z_y1.out W1 hb)
                  have y_y2 := Since.cell (z_y2.out W1 hb)
                  have y_y3 := Since.cell (z_y3.out W1 hb)
                  have y_y4 := Since.cell (z_y4.out W1 hb)
                  have y_t0 := Since.cell (z_t0.out W1 hb)
                  have y_t1 := Since.cell (z_t1.out W1 hb)
                  have y_t2 := Since.cell (z_t2.out W1 hb)
                  have y_t3 := Since.cell (z_t3.out W1 hb)
                  have y_t4 := Since.cell (z_t4.out W1 hb)
                  have y_t5 := Since.cell (z_t5.out W1 hb)
                  have y_t6 := Since.cell (z_t6.out W1 hb)
                  have y_t7 := Since.cell (z_t7.out W1 hb)
                  have y_z0 := Since.cell (z_z0.out W1 hb)
                  have y_z1 := Since.cell (z_z1.out W1 hb)
                  have y_z2 := Since.cell (z_z2.out W1 hb)
                  have y_z3 := Since.cell (z_z3.out W1 hb)
                  have y_z4 := Since.cell (z_z4.out W1 hb)
                  have y_z5 := Since.cell (z_z5.out W1 hb)
                  have y_z6 := Since.cell (z_z6.out W1 hb)
                  have y_z7 := Since.cell (z_z7.out W1 hb)
                  have y_z8 := Since.cell (z_z8.out W1 hb)
                  have y_c10 := Since.cell (z_c10.out W1 hb)
                  replace hX := StA.below hX hb
                  replace hC := Chg.trans hC (Chg.of_below hb)
                  replace hn := hn.below hb hn.lt
                  replace ht := ht.below hb ht.lt
                  replace hbb := hbb.below hb hbb.lt
                  dsimp only [pick, List.filterMap, List.getElem?_cons_succ, List.getElem?_cons_zero]
                  iterate 15 (go_big_quiet_step (fail))
                  refine BigFrame.wpQuiet_want rfl (fun K hK => ⟨.agg #[.int .i64 (sC.last + 1), .int .i64 bs.root, .int .i64 lot, .int .i64 bs.grade, .int .i64 bs.colour, .int .i64 n.width, .int .i64 n.length, .int .i64 0], fun w0 _ => ?_, hK _ ?_⟩)
                  · unfold Oper.quietAt; rw [exec_bstruct rfl (by simp [Act.eval]) (run_piece (sC.last + 1) bs.root lot bs.grade bs.colour n.width n.length w0)]; exact ⟨rfl, rfl⟩
                  clear hK K
                  simp only [Act.put, List.setIfInBounds_toArray, List.set_cons_succ, List.set_cons_zero]
                  exact wpQuiet_nil rfl
                · refine ownWalk_alloc ⟨16, .ptr, (.cells #[.int .i64 0, .int .i64 0, .int .i64 0, .int .i64 0, .int .i64 0, .int .i64 0, .int .i64 0, .int .i64 0] 79), 17, (.cells #[.int .i64 (sC.last + 1), .int .i64 bs.root, .int .i64 lot, .int .i64 bs.grade, .int .i64 bs.colour, .int .i64 n.width, .int .i64 n.length, .int .i64 0] 79)⟩ hok (by kernel_rfl) rfl rfl rfl rfl (fun _ => rfl) (by simp) (by simp) (fun h => absurd h (by simp)) ?_
                  intro hob
                  simp only [Shape.val, List.setIfInBounds_toArray, List.set_cons_succ, List.set_cons_zero]
                  refine ownWalk_fill (cs := #[.int .i64 0, .int .i64 0, .int .i64 0, .int .i64 0, .int .i64 0, .int .i64 0, .int .i64 0, .int .i64 0]) (cs' := #[.int .i64 (sC.last + 1), .int .i64 bs.root, .int .i64 lot, .int .i64 bs.grade, .int .i64 bs.colour, .int .i64 n.width, .int .i64 n.length, .int .i64 0]) ⟨16, .ptr, (.cells #[.int .i64 0, .int .i64 0, .int .i64 0, .int .i64 0, .int .i64 0, .int .i64 0, .int .i64 0, .int .i64 0] 79), 17, (.cells #[.int .i64 (sC.last + 1), .int .i64 bs.root, .int .i64 lot, .int .i64 bs.grade, .int .i64 bs.colour, .int .i64 n.width, .int .i64 n.length, .int .i64 0] 79)⟩ hok (by kernel_rfl) rfl rfl rfl rfl rfl rfl rfl rfl (by kernel_rfl) rfl (by simp [Value.oneCell']) rfl rfl (by simp) (by simp) (by simp) rfl ?_ (by simp)
                  refine ownWalk_nil ?_
                  intro w' hc0 hD
                  have hb := hc0.nil_
                  obtain ⟨hoge, ho⟩ := hD.box.get (x := ⟨16, .ptr, (.cells #[.int .i64 0, .int .i64 0, .int .i64 0, .int .i64 0, .int .i64 0, .int .i64 0, .int .i64 0, .int .i64 0] 79), 17, (.cells #[.int .i64 (sC.last + 1), .int .i64 bs.root, .int .i64 lot, .int .i64 bs.grade, .int .i64 bs.colour, .int .i64 n.width, .int .i64 n.length, .int .i64 0] 79)⟩) (o := (.cells #[.int .i64 (sC.last + 1), .int .i64 bs.root, .int .i64 lot, .int .i64 bs.grade, .int .i64 bs.colour, .int .i64 n.width, .int .i64 n.length, .int .i64 0] 79)) (by simp) rfl rfl
                  replace ho : Blk _ _ _ _ := ho
                  clear hD
                  try simp only [List.drop_succ_cons, List.drop_zero]
                  replace c10 : w'.cell? _ = _ := z_c10.out w' hb
                  clear z_y0 z_y1 z_y2 z_y3 z_y4 z_t0 z_t1 z_t2 z_t3 z_t4 z_t5 z_t6 z_t7 z_z0 z_z1 z_z2 z_z3 z_z4 z_z5 z_z6 z_z7 z_z8 z_c10
                  clear y0 y1 y2 y3 y4 t0 t1 t2 t3 t4 t5 t6 t7 z0 z1 z2 z3 z4 z5 z6 z7 z8
                  replace hX := StA.below hX hb
                  replace hC := Chg.trans hC (Chg.of_below hb)
                  replace hn := hn.below hb hn.lt
                  replace ht := ht.below hb ht.lt
                  replace hbb := hbb.below hb hbb.lt
                  clear hb hok hc0
                  obtain ⟨W, rfl⟩ : ∃ W : World, W = w' := ⟨_, rfl⟩
                  have y0 := hn.cell_ 0 rfl
                  have y1 := hn.cell_ 1 rfl
                  have y2 := hn.cell_ 2 rfl
                  have y3 := hn.cell_ 3 rfl
                  have y4 := hn.cell_ 4 rfl
                  have t0 := ht.cell_ 0 rfl
                  have t1 := ht.cell_ 1 rfl
                  have t2 := ht.cell_ 2 rfl
                  have t3 := ht.cell_ 3 rfl
                  have t4 := ht.cell_ 4 rfl
                  have t5 := ht.cell_ 5 rfl
                  have t6 := ht.cell_ 6 rfl
                  have t7 := ht.cell_ 7 rfl
                  have z0 := hbb.cell_ 0 rfl
                  have z1 := hbb.cell_ 1 rfl
                  have z2 := hbb.cell_ 2 rfl
                  have z3 := hbb.cell_ 3 rfl
                  have z4 := hbb.cell_ 4 rfl
                  have z5 := hbb.cell_ 5 rfl
                  have z6 := hbb.cell_ 6 rfl
                  have z7 := hbb.cell_ 7 rfl
                  have z8 := hbb.cell_ 8 rfl
                  have o0 := ho.cell_ 0 rfl
                  have o1 := ho.cell_ 1 rfl
                  have o2 := ho.cell_ 2 rfl
                  have o3 := ho.cell_ 3 rfl
                  have o4 := ho.cell_ 4 rfl
                  have o5 := ho.cell_ 5 rfl
                  have o6 := ho.cell_ 6 rfl
                  have o7 := ho.cell_ 7 rfl
                  clear y0 y1 y2 y3 y4 t0 t1 t2 t3 t4 t5 t6 t7 z0 z1 z2 z3 z4 z5 z6 z7 z8 o0 o1 o2 o3 o4 o5 o6 o7
                  clear c10
                  have c8 := hX.blk.cell_ 8 (v := .map (some p.rq)) rfl
                  have y0 := hn.cell_ 0 rfl
                  have y1 := hn.cell_ 1 rfl
                  have y2 := hn.cell_ 2 rfl
                  have y3 := hn.cell_ 3 rfl
                  have y4 := hn.cell_ 4 rfl
                  have t0 := ht.cell_ 0 rfl
                  have t1 := ht.cell_ 1 rfl
                  have t2 := ht.cell_ 2 rfl
                  have t3 := ht.cell_ 3 rfl
                  have t4 := ht.cell_ 4 rfl
                  have t5 := ht.cell_ 5 rfl
                  have t6 := ht.cell_ 6 rfl
                  have t7 := ht.cell_ 7 rfl
                  have z0 := hbb.cell_ 0 rfl
                  have z1 := hbb.cell_ 1 rfl
                  have z2 := hbb.cell_ 2 rfl
                  have z3 := hbb.cell_ 3 rfl
                  have z4 := hbb.cell_ 4 rfl
                  have z5 := hbb.cell_ 5 rfl
                  have z6 := hbb.cell_ 6 rfl
                  have z7 := hbb.cell_ 7 rfl
                  have z8 := hbb.cell_ 8 rfl
                  have o0 := ho.cell_ 0 rfl
                  have o1 := ho.cell_ 1 rfl
                  have o2 := ho.cell_ 2 rfl
                  have o3 := ho.cell_ 3 rfl
                  have o4 := ho.cell_ 4 rfl
                  have o5 := ho.cell_ 5 rfl
                  have o6 := ho.cell_ 6 rfl
                  have o7 := ho.cell_ 7 rfl
                  go_wp2_with fail
                  refine wp_region_quiet_tail (C := fun w' => ∃ u : Since W, w' = u.w) 8 (by kernel_rfl) (by kernel_rfl) (Since.start W) ?_
                  simp only [List.take_succ_cons, List.take_zero, List.drop_succ_cons, List.drop_zero]
                  have y_y0 := Since.cell y0
                  have y_y1 := Since.cell y1
                  have y_y2 := Since.cell y2
                  have y_y3 := Since.cell y3
                  have y_y4 := Since.cell y4
                  have y_t0 := Since.cell t0
                  have y_t1 := Since.cell t1
                  have y_t2 := Since.cell t2
                  have y_t3 := Since.cell t3
                  have y_t4 := Since.cell t4
                  have y_t5 := Since.cell t5
                  have y_t6 := Since.cell t6
                  have y_t7 := Since.cell t7
                  have y_z0 := Since.cell z0
                  have y_z1 := Since.cell z1
                  have y_z2 := Since.cell z2
                  have y_z3 := Since.cell z3
                  have y_z4 := Since.cell z4
                  have y_z5 := Since.cell z5
                  have y_z6 := Since.cell z6
                  have y_z7 := Since.cell z7
                  have y_z8 := Since.cell z8
                  have y_o0 := Since.cell o0
                  have y_o1 := Since.cell o1
                  have y_o2 := Since.cell o2
                  have y_o3 := Since.cell o3
                  have y_o4 := Since.cell o4
                  have y_o5 := Since.cell o5
                  have y_o6 := Since.cell o6
                  have y_o7 := Since.cell o7
                  have y_c8 := Since.cell c8
                  clear y0 y1 y2 y3 y4 t0 t1 t2 t3 t4 t5 t6 t7 z0 z1 z2 z3 z4 z5 z6 z7 z8 o0 o1 o2 o3 o4 o5 o6 o7
                  repeat (go_big_quiet_step ((fail)))
                  refine wpQuiet_nil ?_
                  rintro W ⟨⟨_, hb⟩, rfl⟩
                  try dsimp only at hb ⊢
                  replace c8 : W.cell? _ = _ := y_c8 ⟨W, hb⟩
                  clear y_y0 y_y1 y_y2 y_y3 y_y4 y_t0 y_t1 y_t2 y_t3 y_t4 y_t5 y_t6 y_t7 y_z0 y_z1 y_z2 y_z3 y_z4 y_z5 y_z6 y_z7 y_z8 y_o0 y_o1 y_o2 y_o3 y_o4 y_o5 y_o6 y_o7 y_c8
                  replace hX := StA.below hX hb
                  replace hC := Chg.trans hC (Chg.of_below hb)
                  replace hn := hn.below hb hn.lt
                  replace ht := ht.below hb ht.lt
                  replace hbb := hbb.below hb hbb.lt
                  replace ho := ho.below hb ho.lt
                  clear hb
                  have y0 := hn.cell_ 0 rfl
                  have y1 := hn.cell_ 1 rfl
                  have y2 := hn.cell_ 2 rfl
                  have y3 := hn.cell_ 3 rfl
                  have y4 := hn.cell_ 4 rfl
                  have t0 := ht.cell_ 0 rfl
                  have t1 := ht.cell_ 1 rfl
                  have t2 := ht.cell_ 2 rfl
                  have t3 := ht.cell_ 3 rfl
                  have t4 := ht.cell_ 4 rfl
                  have t5 := ht.cell_ 5 rfl
                  have t6 := ht.cell_ 6 rfl
                  have t7 := ht.cell_ 7 rfl
                  have z0 := hbb.cell_ 0 rfl
                  have z1 := hbb.cell_ 1 rfl
                  have z2 := hbb.cell_ 2 rfl
                  have z3 := hbb.cell_ 3 rfl
                  have z4 := hbb.cell_ 4 rfl
                  have z5 := hbb.cell_ 5 rfl
                  have z6 := hbb.cell_ 6 rfl
                  have z7 := hbb.cell_ 7 rfl
                  have z8 := hbb.cell_ 8 rfl
                  have o0 := ho.cell_ 0 rfl
                  have o1 := ho.cell_ 1 rfl
                  have o2 := ho.cell_ 2 rfl
                  have o3 := ho.cell_ 3 rfl
                  have o4 := ho.cell_ 4 rfl
                  have o5 := ho.cell_ 5 rfl
                  have o6 := ho.cell_ 6 rfl
                  have o7 := ho.cell_ 7 rfl
                  clear y0 y1 y2 y3 y4 t0 t1 t2 t3 t4 t5 t6 t7 z0 z1 z2 z3 z4 z5 z6 z7 z8 o0 o1 o2 o3 o4 o5 o6 o7
                  clear c8
                  go_upto_region 26 with (refine wpList_put_im rfl rfl _ _ _ _ rfl _ _ Try.underlying33 Try.underlying3 p.rq rfl hX.parent (sC.last + 1) (.int .i64 bs.id) rfl rfl ?_; intro W6 hM6 hg6)
                  have hX6 := hX.upd_parent (P' := put sC.parent (sC.last + 1) bs.id) hg6 (by rw [← put_kv]; exact hM6)
                  have hcc : Chg p.has W W6 := .of_grown hg6 (by simp [Fp.has])
                  replace ho := ho.chgS hX hcc (by decide)
                  replace hC := hC.trans hcc
                  replace hn := hn.chgS hX hcc (by decide)
                  replace ht := ht.chgS hX hcc (by decide)
                  replace hbb := hbb.chgS hX hcc (by decide)
                  clear hX hM6 hg6 hcc
                  have hX := hX6
                  clear hX6
                  obtain ⟨W, rfl⟩ : ∃ X : World, X = W6 := ⟨_, rfl⟩
                  have c7 := hX.blk.cell_ 7 (v := .map (some p.rp)) rfl
                  have y0 := hn.cell_ 0 rfl
                  have y1 := hn.cell_ 1 rfl
                  have y2 := hn.cell_ 2 rfl
                  have y3 := hn.cell_ 3 rfl
                  have y4 := hn.cell_ 4 rfl
                  have t0 := ht.cell_ 0 rfl
                  have t1 := ht.cell_ 1 rfl
                  have t2 := ht.cell_ 2 rfl
                  have t3 := ht.cell_ 3 rfl
                  have t4 := ht.cell_ 4 rfl
                  have t5 := ht.cell_ 5 rfl
                  have t6 := ht.cell_ 6 rfl
                  have t7 := ht.cell_ 7 rfl
                  have z0 := hbb.cell_ 0 rfl
                  have z1 := hbb.cell_ 1 rfl
                  have z2 := hbb.cell_ 2 rfl
                  have z3 := hbb.cell_ 3 rfl
                  have z4 := hbb.cell_ 4 rfl
                  have z5 := hbb.cell_ 5 rfl
                  have z6 := hbb.cell_ 6 rfl
                  have z7 := hbb.cell_ 7 rfl
                  have z8 := hbb.cell_ 8 rfl
                  have o0 := ho.cell_ 0 rfl
                  have o1 := ho.cell_ 1 rfl
                  have o2 := ho.cell_ 2 rfl
                  have o3 := ho.cell_ 3 rfl
                  have o4 := ho.cell_ 4 rfl
                  have o5 := ho.cell_ 5 rfl
                  have o6 := ho.cell_ 6 rfl
                  have o7 := ho.cell_ 7 rfl
                  go_wp2_with fail
                  refine wp_region_quiet_tail (C := fun w' => ∃ u : Since W, w' = u.w) 7 (by kernel_rfl) (by kernel_rfl) (Since.start W) ?_
                  simp only [List.take_succ_cons, List.take_zero, List.drop_succ_cons, List.drop_zero]
                  have y_y0 := Since.cell y0
                  have y_y1 := Since.cell y1
                  have y_y2 := Since.cell y2
                  have y_y3 := Since.cell y3
                  have y_y4 := Since.cell y4
                  have y_t0 := Since.cell t0
                  have y_t1 := Since.cell t1
                  have y_t2 := Since.cell t2
                  have y_t3 := Since.cell t3
                  have y_t4 := Since.cell t4
                  have y_t5 := Since.cell t5
                  have y_t6 := Since.cell t6
                  have y_t7 := Since.cell t7
                  have y_z0 := Since.cell z0
                  have y_z1 := Since.cell z1
                  have y_z2 := Since.cell z2
                  have y_z3 := Since.cell z3
                  have y_z4 := Since.cell z4
                  have y_z5 := Since.cell z5
                  have y_z6 := Since.cell z6
                  have y_z7 := Since.cell z7
                  have y_z8 := Since.cell z8
                  have y_o0 := Since.cell o0
                  have y_o1 := Since.cell o1
                  have y_o2 := Since.cell o2
                  have y_o3 := Since.cell o3
                  have y_o4 := Since.cell o4
                  have y_o5 := Since.cell o5
                  have y_o6 := Since.cell o6
                  have y_o7 := Since.cell o7
                  have y_c7 := Since.cell c7
                  clear y0 y1 y2 y3 y4 t0 t1 t2 t3 t4 t5 t6 t7 z0 z1 z2 z3 z4 z5 z6 z7 z8 o0 o1 o2 o3 o4 o5 o6 o7
                  repeat (go_big_quiet_step ((fail)))
                  refine wpQuiet_nil ?_
                  rintro W ⟨⟨_, hb⟩, rfl⟩
                  try dsimp only at hb ⊢
                  replace c7 : W.cell? _ = _ := y_c7 ⟨W, hb⟩
                  clear y_y0 y_y1 y_y2 y_y3 y_y4 y_t0 y_t1 y_t2 y_t3 y_t4 y_t5 y_t6 y_t7 y_z0 y_z1 y_z2 y_z3 y_z4 y_z5 y_z6 y_z7 y_z8 y_o0 y_o1 y_o2 y_o3 y_o4 y_o5 y_o6 y_o7 y_c7
                  replace hX := StA.below hX hb
                  replace hC := Chg.trans hC (Chg.of_below hb)
                  replace hn := hn.below hb hn.lt
                  replace ht := ht.below hb ht.lt
                  replace hbb := hbb.below hb hbb.lt
                  replace ho := ho.below hb ho.lt
                  clear hb
                  have y0 := hn.cell_ 0 rfl
                  have y1 := hn.cell_ 1 rfl
                  have y2 := hn.cell_ 2 rfl
                  have y3 := hn.cell_ 3 rfl
                  have y4 := hn.cell_ 4 rfl
                  have t0 := ht.cell_ 0 rfl
                  have t1 := ht.cell_ 1 rfl
                  have t2 := ht.cell_ 2 rfl
                  have t3 := ht.cell_ 3 rfl
                  have t4 := ht.cell_ 4 rfl
                  have t5 := ht.cell_ 5 rfl
                  have t6 := ht.cell_ 6 rfl
                  have t7 := ht.cell_ 7 rfl
                  have z0 := hbb.cell_ 0 rfl
                  have z1 := hbb.cell_ 1 rfl
                  have z2 := hbb.cell_ 2 rfl
                  have z3 := hbb.cell_ 3 rfl
                  have z4 := hbb.cell_ 4 rfl
                  have z5 := hbb.cell_ 5 rfl
                  have z6 := hbb.cell_ 6 rfl
                  have z7 := hbb.cell_ 7 rfl
                  have z8 := hbb.cell_ 8 rfl
                  have o0 := ho.cell_ 0 rfl
                  have o1 := ho.cell_ 1 rfl
                  have o2 := ho.cell_ 2 rfl
                  have o3 := ho.cell_ 3 rfl
                  have o4 := ho.cell_ 4 rfl
                  have o5 := ho.cell_ 5 rfl
                  have o6 := ho.cell_ 6 rfl
                  have o7 := ho.cell_ 7 rfl
                  clear y0 y1 y2 y3 y4 t0 t1 t2 t3 t4 t5 t6 t7 z0 z1 z2 z3 z4 z5 z6 z7 z8 o0 o1 o2 o3 o4 o5 o6 o7
                  clear c7
                  go_upto_region 27 with (refine wpList_put_im rfl rfl _ _ _ _ rfl _ _ Try.underlying55 Try.underlying3 p.rp rfl hX.pieces (sC.last + 1) (.agg #[.int .i64 (sC.last + 1), .int .i64 bs.root, .int .i64 lot, .int .i64 bs.grade, .int .i64 bs.colour, .int .i64 n.width, .int .i64 n.length, .int .i64 0]) rfl rfl ?_; intro W6 hM6 hg6)
                  have hX6 := hX.put_piece (x := pieceF sC n lot bs) hg6 hM6
                  have hcc : Chg p.has W W6 := .of_grown hg6 (by simp [Fp.has])
                  replace ho := ho.chgS hX hcc (by decide)
                  replace hC := hC.trans hcc
                  replace hn := hn.chgS hX hcc (by decide)
                  replace ht := ht.chgS hX hcc (by decide)
                  replace hbb := hbb.chgS hX hcc (by decide)
                  clear hX hM6 hg6 hcc
                  have hX := hX6
                  clear hX6
                  obtain ⟨W, rfl⟩ : ∃ X : World, X = W6 := ⟨_, rfl⟩
                  have o0 := ho.cell_ 0 rfl
                  have o1 := ho.cell_ 1 rfl
                  have o2 := ho.cell_ 2 rfl
                  have o3 := ho.cell_ 3 rfl
                  have o4 := ho.cell_ 4 rfl
                  have o5 := ho.cell_ 5 rfl
                  have o6 := ho.cell_ 6 rfl
                  have o7 := ho.cell_ 7 rfl
                  go_wp2_with (refine wpList_store_blk rfl 79 _ _ rfl #[.int .i64 (sC.last + 1), .int .i64 bs.root, .int .i64 lot, .int .i64 bs.grade, .int .i64 bs.colour, .int .i64 n.width, .int .i64 n.length, .int .i64 0] ht rfl rfl (by kernel_rfl) rfl (by simp [Value.oneCell']) ?_; intro W9 ht9 hc9; have q0 := ht9.cell_ 0 rfl; have q1 := ht9.cell_ 1 rfl; have q2 := ht9.cell_ 2 rfl; have q3 := ht9.cell_ 3 rfl; have q4 := ht9.cell_ 4 rfl; have q5 := ht9.cell_ 5 rfl; have q6 := ht9.cell_ 6 rfl; have q7 := ht9.cell_ 7 rfl)
                  have hX9 := hX.chg1 hc9 ht (by decide) (by decide)
                  have hC9 : Chg p.has w W9 := hC.of_new hc9 (by have := HB0.out; omega)
                  refine bodyPost_ret (v := .tuple #[.agg #[.int .i64 (sC.last + 1), .int .i64 bs.root, .int .i64 lot, .int .i64 bs.grade, .int .i64 bs.colour, .int .i64 n.width, .int .i64 n.length, .int .i64 0], .bool true]) (by simp [results, Try.results47, go_sem, q0, q1, q2, q3, q4, q5, q6, q7]) rfl ?_
                  unfold CutPost
                  rw [HES.out, H3.out]
                  exact ⟨rfl, hX9, hC9⟩
    · intro k v L1 L2 w1 hLe hit1 hg1 hen
      have hkv : (k, v) ∈ MI := HLM.out _ (by rw [hLe]; simp)
      have hlt := ht.lt
      have hltb := hbb.lt
      have hB1 : Below b0 w w1 := hB.grown hg1 (by omega) (fun k hk => by cases hk; have := HIT.out; omega)
      obtain ⟨x, hx, hVx⟩ := zip_mem (HAT.out w1 hB1).2.2 hkv
      obtain ⟨A2, c2, rfl, hrest⟩ := id hVx
      clear hrest
      have HLK := hide (look_mem HI.out.ki hx)
      have HXI := hide hx
      obtain ⟨hxk, hxo⟩ := HI.out.it _ _ HLK.out
      have HXK := hide hxk
      have HXO := hide hxo
      have HLE := hide hLe
      have HMS : Hid (leftN W it = (L1 ++ L2).length + 1) := by show _ = _; rw [hit.left_eq, hLe]; simp; omega
      have HLM2 : Hid (∀ q ∈ L1 ++ L2, q ∈ MI) := fun q hq => HLM.out q (by rw [hLe]; simp at hq ⊢; rcases hq with h | h <;> simp [h])
      have hV1 := HV.out.chg (S := fun k => k = it) (.of_grown hg1 rfl) fun k hk => by subst hk; exact hit.noSpan
      replace hn := hn.grown hg1 (by simp; have := HIT.out; omega)
      replace ht := ht.grown hg1 (by simp; have := HIT.out; omega)
      replace hbb := hbb.grown hg1 (by simp; have := HIT.out; omega)
      clear hB hit hg1 hkv hx hxk hxo hLe HLM HV hlt hltb
      unfold Sheet.valAt at hen
      have hxx := Blk.new w1 65 #[.int .i64 x.id, .int .i64 x.root, .int .i64 x.grade, .int .i64 x.colour, .int .i64 x.lot, .int .i64 x.made, .int .i64 x.width, .int .i64 x.length, .slice A2 x.faults.length c2]
      have hal := (Below.refl w1.heap.size w1).alloc (Nat.le_refl _) (.cells #[.int .i64 x.id, .int .i64 x.root, .int .i64 x.grade, .int .i64 x.colour, .int .i64 x.lot, .int .i64 x.made, .int .i64 x.width, .int .i64 x.length, .slice A2 x.faults.length c2] 65)
      have hsz1 : b0 ≤ w1.heap.size := by have := hn.lt; omega
      have HSZ1 := hide (show b0 + 1 + 1 < w1.heap.size from hbb.lt)
      go_upto_region 5 with fail
      replace hn := hn.below hal hn.lt
      replace ht := ht.below hal ht.lt
      replace hbb := hbb.below hal hbb.lt
      replace hV1 := hV1.below hal
      replace hVx := hVx.below hal
      replace hit1 := hit1.below hal hit1.map_.lt hit1.lt
      have hB := hB1.trans (hal.mono hsz1)
      clear hal hen hB1 hsz1
      generalize w1.alloc (.cells #[.int .i64 x.id, .int .i64 x.root, .int .i64 x.grade, .int .i64 x.colour, .int .i64 x.lot, .int .i64 x.made, .int .i64 x.width, .int .i64 x.length, .slice A2 x.faults.length c2] 65) = W3 at *
      generalize w1.heap.size = bx at *
      obtain ⟨W, rfl⟩ : ∃ X : World, X = W3 := ⟨_, rfl⟩
      have HV := hide hV1
      have HVX := hide hVx
      clear hV1 hVx
      have HCD : Hid (candF s.rules n lot day x = (decide (x.lot = lot) && decide (n.width ≤ x.width) && useF s.rules x day && (clear x.length x.faults n.length).isSome)) := rfl
      have HS0 : Hid (b0 ≤ bx) := by have := HSZ1.out; show _ ≤ _; omega
      have y0 := hn.cell_ 0 rfl
      have y1 := hn.cell_ 1 rfl
      have y2 := hn.cell_ 2 rfl
      have y3 := hn.cell_ 3 rfl
      have y4 := hn.cell_ 4 rfl
      have z0 := hbb.cell_ 0 rfl
      have z1 := hbb.cell_ 1 rfl
      have z2 := hbb.cell_ 2 rfl
      have z3 := hbb.cell_ 3 rfl
      have z4 := hbb.cell_ 4 rfl
      have z5 := hbb.cell_ 5 rfl
      have z6 := hbb.cell_ 6 rfl
      have z7 := hbb.cell_ 7 rfl
      have z8 := hbb.cell_ 8 rfl
      have x0 := hxx.cell_ 0 rfl
      have x1 := hxx.cell_ 1 rfl
      have x2 := hxx.cell_ 2 rfl
      have x3 := hxx.cell_ 3 rfl
      have x4 := hxx.cell_ 4 rfl
      have x5 := hxx.cell_ 5 rfl
      have x6 := hxx.cell_ 6 rfl
      have x7 := hxx.cell_ 7 rfl
      have x8 := hxx.cell_ 8 rfl
      by_cases h1 : x.lot = lot
      · by_cases h2 : x.width < n.width
        · have HCF : Hid (candF s.rules n lot day x = false) := by show _ = _; rw [HCD.out, decide_eq_false (show ¬ n.width ≤ x.width by omega)]; simp
          go_wp2_with fail
          clear h1 h2
          clear y0 y1 y2 y3 y4 z0 z1 z2 z3 z4 z5 z6 z7 z8 x0 x1 x2 x3 x4 x5 x6 x7 x8
          go_roundw
          case rel => exact ⟨o, bs, A, c, L1 ++ L2, hit1, ⟨HBK.out.1, best_skip HI.out.ki HXI.out HCF.out (by rw [← HLE.out]; exact HBK.out.2)⟩, HLM2, hn, ht, hbb, HV, hB⟩
          case measure => rw [HMS.out, hit1.left_eq]; omega
        · cases hu : useF s.rules x day with
          | false =>
            have HCF : Hid (candF s.rules n lot day x = false) := by show _ = _; rw [HCD.out, hu]; simp
            have U := fun W hXW => usable_any p s x A2 c2 day W hXW HXO.out.g HXO.out.m HD.out hu
            rw [h1] at U
            have HU := hide U
            clear U hu
            go_wp2_with fail
            refine (HU.out _ (HAT.out _ hB).1).mono ?_
            rintro e W ⟨rfl, hb⟩
            clear y0 y1 y2 y3 y4 z0 z1 z2 z3 z4 z5 z6 z7 z8 x0 x1 x2 x3 x4 x5 x6 x7 x8
            replace hB := Below.trans hB (Below.mono hb (Nat.le_trans HS0.out (Nat.le_of_lt (Blk.lt hxx))))
            replace hn := hn.below hb hn.lt
            replace ht := Blk.below ht hb (Blk.lt ht)
            replace hbb := hbb.below hb hbb.lt
            replace hxx := hxx.below hb hxx.lt
            replace HV := hide (ItV.below (Hid.out HV) hb)
            replace HVX := hide (ItV.below (Hid.out HVX) hb)
            replace hit1 := IterOf.below hit1 hb (MapOf.lt (IterOf.map_ hit1)) (IterOf.lt hit1)
            clear hb
            have y0 := hn.cell_ 0 rfl
            have y1 := hn.cell_ 1 rfl
            have y2 := hn.cell_ 2 rfl
            have y3 := hn.cell_ 3 rfl
            have y4 := hn.cell_ 4 rfl
            have z0 := hbb.cell_ 0 rfl
            have z1 := hbb.cell_ 1 rfl
            have z2 := hbb.cell_ 2 rfl
            have z3 := hbb.cell_ 3 rfl
            have z4 := hbb.cell_ 4 rfl
            have z5 := hbb.cell_ 5 rfl
            have z6 := hbb.cell_ 6 rfl
            have z7 := hbb.cell_ 7 rfl
            have z8 := hbb.cell_ 8 rfl
            have x0 := hxx.cell_ 0 rfl
            have x1 := hxx.cell_ 1 rfl
            have x2 := hxx.cell_ 2 rfl
            have x3 := hxx.cell_ 3 rfl
            have x4 := hxx.cell_ 4 rfl
            have x5 := hxx.cell_ 5 rfl
            have x6 := hxx.cell_ 6 rfl
            have x7 := hxx.cell_ 7 rfl
            have x8 := hxx.cell_ 8 rfl
            go_wp2_with fail
            clear h1 h2 HU
            clear y0 y1 y2 y3 y4 z0 z1 z2 z3 z4 z5 z6 z7 z8 x0 x1 x2 x3 x4 x5 x6 x7 x8
            go_roundw
            case rel => exact ⟨o, bs, A, c, L1 ++ L2, hit1, ⟨HBK.out.1, best_skip HI.out.ki HXI.out HCF.out (by rw [← HLE.out]; exact HBK.out.2)⟩, HLM2, hn, ht, hbb, HV, hB⟩
            case measure => rw [HMS.out, hit1.left_eq]; omega
          | true =>
            cases hcl : clear x.length x.faults n.length with
            | none =>
              have HCF : Hid (candF s.rules n lot day x = false) := by show _ = _; rw [HCD.out, hcl]; simp
              have U := fun W hXW => usable_any p s x A2 c2 day W hXW HXO.out.g HXO.out.m HD.out hu
              rw [h1] at U
              have HU := hide U
              clear U
              go_wp2_with fail
              refine (HU.out _ (HAT.out _ hB).1).mono ?_
              rintro e W ⟨rfl, hb⟩
              clear y0 y1 y2 y3 y4 z0 z1 z2 z3 z4 z5 z6 z7 z8 x0 x1 x2 x3 x4 x5 x6 x7 x8
              replace hB := Below.trans hB (Below.mono hb (Nat.le_trans HS0.out (Nat.le_of_lt (Blk.lt hxx))))
              replace hn := hn.below hb hn.lt
              replace ht := Blk.below ht hb (Blk.lt ht)
              replace hbb := hbb.below hb hbb.lt
              replace hxx := hxx.below hb hxx.lt
              replace HV := hide (ItV.below (Hid.out HV) hb)
              replace HVX := hide (ItV.below (Hid.out HVX) hb)
              replace hit1 := IterOf.below hit1 hb (MapOf.lt (IterOf.map_ hit1)) (IterOf.lt hit1)
              clear hb
              have y0 := hn.cell_ 0 rfl
              have y1 := hn.cell_ 1 rfl
              have y2 := hn.cell_ 2 rfl
              have y3 := hn.cell_ 3 rfl
              have y4 := hn.cell_ 4 rfl
              have z0 := hbb.cell_ 0 rfl
              have z1 := hbb.cell_ 1 rfl
              have z2 := hbb.cell_ 2 rfl
              have z3 := hbb.cell_ 3 rfl
              have z4 := hbb.cell_ 4 rfl
              have z5 := hbb.cell_ 5 rfl
              have z6 := hbb.cell_ 6 rfl
              have z7 := hbb.cell_ 7 rfl
              have z8 := hbb.cell_ 8 rfl
              have x0 := hxx.cell_ 0 rfl
              have x1 := hxx.cell_ 1 rfl
              have x2 := hxx.cell_ 2 rfl
              have x3 := hxx.cell_ 3 rfl
              have x4 := hxx.cell_ 4 rfl
              have x5 := hxx.cell_ 5 rfl
              have x6 := hxx.cell_ 6 rfl
              have x7 := hxx.cell_ 7 rfl
              have x8 := hxx.cell_ 8 rfl
              clear h1 h2 hu HU
              go_wp2_with fail
              refine (clear_no x.length n.length A2 c2 x.faults _ (by have := HXO.out.l; omega) (by have := HXO.out.n; omega) HVX.out.slc hcl).mono ?_
              rintro e W ⟨rfl, hb⟩
              clear y0 y1 y2 y3 y4 z0 z1 z2 z3 z4 z5 z6 z7 z8 x0 x1 x2 x3 x4 x5 x6 x7 x8
              replace hB := Below.trans hB (Below.mono hb (Nat.le_trans HS0.out (Nat.le_of_lt (Blk.lt hxx))))
              replace hn := hn.below hb hn.lt
              replace ht := Blk.below ht hb (Blk.lt ht)
              replace hbb := hbb.below hb hbb.lt
              replace hxx := hxx.below hb hxx.lt
              replace HV := hide (ItV.below (Hid.out HV) hb)
              replace HVX := hide (ItV.below (Hid.out HVX) hb)
              replace hit1 := IterOf.below hit1 hb (MapOf.lt (IterOf.map_ hit1)) (IterOf.lt hit1)
              clear hb
              have y0 := hn.cell_ 0 rfl
              have y1 := hn.cell_ 1 rfl
              have y2 := hn.cell_ 2 rfl
              have y3 := hn.cell_ 3 rfl
              have y4 := hn.cell_ 4 rfl
              have z0 := hbb.cell_ 0 rfl
              have z1 := hbb.cell_ 1 rfl
              have z2 := hbb.cell_ 2 rfl
              have z3 := hbb.cell_ 3 rfl
              have z4 := hbb.cell_ 4 rfl
              have z5 := hbb.cell_ 5 rfl
              have z6 := hbb.cell_ 6 rfl
              have z7 := hbb.cell_ 7 rfl
              have z8 := hbb.cell_ 8 rfl
              have x0 := hxx.cell_ 0 rfl
              have x1 := hxx.cell_ 1 rfl
              have x2 := hxx.cell_ 2 rfl
              have x3 := hxx.cell_ 3 rfl
              have x4 := hxx.cell_ 4 rfl
              have x5 := hxx.cell_ 5 rfl
              have x6 := hxx.cell_ 6 rfl
              have x7 := hxx.cell_ 7 rfl
              have x8 := hxx.cell_ 8 rfl
              clear hcl
              go_wp2_with fail
              clear y0 y1 y2 y3 y4 z0 z1 z2 z3 z4 z5 z6 z7 z8 x0 x1 x2 x3 x4 x5 x6 x7 x8
              go_roundw
              case rel => exact ⟨o, bs, A, c, L1 ++ L2, hit1, ⟨HBK.out.1, best_skip HI.out.ki HXI.out HCF.out (by rw [← HLE.out]; exact HBK.out.2)⟩, HLM2, hn, ht, hbb, HV, hB⟩
              case measure => rw [HMS.out, hit1.left_eq]; omega
            | some q =>
              have HCF : Hid (candF s.rules n lot day x = true) := by show _ = _; rw [HCD.out, hcl, hu, decide_eq_true h1, decide_eq_true (show n.width ≤ x.width by omega)]; rfl
              have U := fun W hXW => usable_any p s x A2 c2 day W hXW HXO.out.g HXO.out.m HD.out hu
              rw [h1] at U
              have HU := hide U
              clear U
              go_wp2_with fail
              refine (HU.out _ (HAT.out _ hB).1).mono ?_
              rintro e W ⟨rfl, hb⟩
              clear y0 y1 y2 y3 y4 z0 z1 z2 z3 z4 z5 z6 z7 z8 x0 x1 x2 x3 x4 x5 x6 x7 x8
              replace hB := Below.trans hB (Below.mono hb (Nat.le_trans HS0.out (Nat.le_of_lt (Blk.lt hxx))))
              replace hn := hn.below hb hn.lt
              replace ht := Blk.below ht hb (Blk.lt ht)
              replace hbb := hbb.below hb hbb.lt
              replace hxx := hxx.below hb hxx.lt
              replace HV := hide (ItV.below (Hid.out HV) hb)
              replace HVX := hide (ItV.below (Hid.out HVX) hb)
              replace hit1 := IterOf.below hit1 hb (MapOf.lt (IterOf.map_ hit1)) (IterOf.lt hit1)
              clear hb
              have y0 := hn.cell_ 0 rfl
              have y1 := hn.cell_ 1 rfl
              have y2 := hn.cell_ 2 rfl
              have y3 := hn.cell_ 3 rfl
              have y4 := hn.cell_ 4 rfl
              have z0 := hbb.cell_ 0 rfl
              have z1 := hbb.cell_ 1 rfl
              have z2 := hbb.cell_ 2 rfl
              have z3 := hbb.cell_ 3 rfl
              have z4 := hbb.cell_ 4 rfl
              have z5 := hbb.cell_ 5 rfl
              have z6 := hbb.cell_ 6 rfl
              have z7 := hbb.cell_ 7 rfl
              have z8 := hbb.cell_ 8 rfl
              have x0 := hxx.cell_ 0 rfl
              have x1 := hxx.cell_ 1 rfl
              have x2 := hxx.cell_ 2 rfl
              have x3 := hxx.cell_ 3 rfl
              have x4 := hxx.cell_ 4 rfl
              have x5 := hxx.cell_ 5 rfl
              have x6 := hxx.cell_ 6 rfl
              have x7 := hxx.cell_ 7 rfl
              have x8 := hxx.cell_ 8 rfl
              clear h1 h2 hu HU
              go_wp2_with fail
              refine (clear_yes x.length n.length A2 c2 x.faults _ (by have := HXO.out.l; omega) (by have := HXO.out.n; omega) HVX.out.slc hcl).mono ?_
              rintro e W ⟨rfl, hb⟩
              clear y0 y1 y2 y3 y4 z0 z1 z2 z3 z4 z5 z6 z7 z8 x0 x1 x2 x3 x4 x5 x6 x7 x8
              replace hB := Below.trans hB (Below.mono hb (Nat.le_trans HS0.out (Nat.le_of_lt (Blk.lt hxx))))
              replace hn := hn.below hb hn.lt
              replace ht := Blk.below ht hb (Blk.lt ht)
              replace hbb := hbb.below hb hbb.lt
              replace hxx := hxx.below hb hxx.lt
              replace HV := hide (ItV.below (Hid.out HV) hb)
              replace HVX := hide (ItV.below (Hid.out HVX) hb)
              replace hit1 := IterOf.below hit1 hb (MapOf.lt (IterOf.map_ hit1)) (IterOf.lt hit1)
              clear hb
              have y0 := hn.cell_ 0 rfl
              have y1 := hn.cell_ 1 rfl
              have y2 := hn.cell_ 2 rfl
              have y3 := hn.cell_ 3 rfl
              have y4 := hn.cell_ 4 rfl
              have z0 := hbb.cell_ 0 rfl
              have z1 := hbb.cell_ 1 rfl
              have z2 := hbb.cell_ 2 rfl
              have z3 := hbb.cell_ 3 rfl
              have z4 := hbb.cell_ 4 rfl
              have z5 := hbb.cell_ 5 rfl
              have z6 := hbb.cell_ 6 rfl
              have z7 := hbb.cell_ 7 rfl
              have z8 := hbb.cell_ 8 rfl
              have x0 := hxx.cell_ 0 rfl
              have x1 := hxx.cell_ 1 rfl
              have x2 := hxx.cell_ 2 rfl
              have x3 := hxx.cell_ 3 rfl
              have x4 := hxx.cell_ 4 rfl
              have x5 := hxx.cell_ 5 rfl
              have x6 := hxx.cell_ 6 rfl
              have x7 := hxx.cell_ 7 rfl
              have x8 := hxx.cell_ 8 rfl
              clear hcl
              cases ho : o with
              | none =>
                have hz : bs.id = 0 := by rw [HBK.out.1, ho]; rfl
                have HBN : Hid (BestOk s n lot day (L1 ++ L2) (some x)) := best_new HI.out.ki HXI.out HXK.out HCF.out (o := o) (fun b hb => by rw [ho] at hb; cases hb) (by rw [← HLE.out]; exact HBK.out.2)
                go_upto_region 8 with fail
                have y0 := hn.cell_ 0 rfl
                have y1 := hn.cell_ 1 rfl
                have y2 := hn.cell_ 2 rfl
                have y3 := hn.cell_ 3 rfl
                have y4 := hn.cell_ 4 rfl
                have z0 := hbb.cell_ 0 rfl
                have z1 := hbb.cell_ 1 rfl
                have z2 := hbb.cell_ 2 rfl
                have z3 := hbb.cell_ 3 rfl
                have z4 := hbb.cell_ 4 rfl
                have z5 := hbb.cell_ 5 rfl
                have z6 := hbb.cell_ 6 rfl
                have z7 := hbb.cell_ 7 rfl
                have z8 := hbb.cell_ 8 rfl
                have x0 := hxx.cell_ 0 rfl
                have x1 := hxx.cell_ 1 rfl
                have x2 := hxx.cell_ 2 rfl
                have x3 := hxx.cell_ 3 rfl
                have x4 := hxx.cell_ 4 rfl
                have x5 := hxx.cell_ 5 rfl
                have x6 := hxx.cell_ 6 rfl
                have x7 := hxx.cell_ 7 rfl
                have x8 := hxx.cell_ 8 rfl
                go_wp2_with (refine wpList_store_blk rfl 65 _ _ rfl #[.int .i64 x.id, .int .i64 x.root, .int .i64 x.grade, .int .i64 x.colour, .int .i64 x.lot, .int .i64 x.made, .int .i64 x.width, .int .i64 x.length, .slice A2 x.faults.length c2] hbb rfl rfl (by kernel_rfl) rfl (by simp [Value.oneCell']) ?_; intro W9 hbb9 hc9)
                clear y0 y1 y2 y3 y4 z0 z1 z2 z3 z4 z5 z6 z7 z8 x0 x1 x2 x3 x4 x5 x6 x7 x8
                have hS9 : ∀ k, (fun k => k = b0 + 1 + 1) k → NoSpan W k := fun k hk => by have hk : k = b0 + 1 + 1 := hk; subst hk; exact NoSpan.blk hbb (by decide)
                have hVX9 := HVX.out.chg hc9 hS9
                have hn9 := hn.chg1 hc9 (by omega)
                have ht9 := ht.chg1 hc9 (by omega)
                have hit9 := hit1.same (hc9.block p.ri hit1.map_.lt (by have := HRI.out; omega)) (hc9.block it hit1.lt (by have := HIT.out; omega))
                have hB9 := hB.trans (hc9.below1 (B := b0) (by have := hn.lt; omega) (by omega))
                try dsimp only [Act.put]
                go_roundw
                case rel => exact ⟨some x, x, A2, c2, L1 ++ L2, hit9, ⟨rfl, HBN.out⟩, HLM2, hn9, ht9, hbb9, hVX9, hB9⟩
                case measure => rw [HMS.out, hit9.left_eq]; omega
              | some b =>
                have hz : ¬ bs.id = 0 := by
                  have h1 := HBK.out.2
                  rw [ho] at h1
                  have h2 := (HI.out.it _ _ (look_mem HI.out.ki h1.1)).2.id
                  rw [HBK.out.1, ho]; show ¬ b.id = 0
                  omega
                have ebs : bs = b := by rw [HBK.out.1, ho]; rfl
                have HEB := hide ebs
                clear ebs
                have dz1 : (bs.id == 0) = false := by simpa using hz
                have dz2 : decide (bs.id = 0) = false := by simpa using hz
                obtain ⟨bf, hbf⟩ : ∃ bf, betF x bs = bf := ⟨_, rfl⟩
                have HBF : Hid (decide (bf < 0) = lessS x b) := by show _ = _; rw [← hbf, betF_lt, HEB.out]
                have U := fun W => better_any x bs A2 A c2 c W
                rw [hbf] at U
                have HU := hide U
                clear U hbf
                go_wp2_with fail
                refine (HU.out _).mono ?_
                rintro e W ⟨rfl, hb⟩
                clear y0 y1 y2 y3 y4 z0 z1 z2 z3 z4 z5 z6 z7 z8 x0 x1 x2 x3 x4 x5 x6 x7 x8
                replace hB := Below.trans hB (Below.mono hb (Nat.le_trans HS0.out (Nat.le_of_lt (Blk.lt hxx))))
                replace hn := hn.below hb hn.lt
                replace ht := Blk.below ht hb (Blk.lt ht)
                replace hbb := hbb.below hb hbb.lt
                replace hxx := hxx.below hb hxx.lt
                replace HV := hide (ItV.below (Hid.out HV) hb)
                replace HVX := hide (ItV.below (Hid.out HVX) hb)
                replace hit1 := IterOf.below hit1 hb (MapOf.lt (IterOf.map_ hit1)) (IterOf.lt hit1)
                clear hb
                have y0 := hn.cell_ 0 rfl
                have y1 := hn.cell_ 1 rfl
                have y2 := hn.cell_ 2 rfl
                have y3 := hn.cell_ 3 rfl
                have y4 := hn.cell_ 4 rfl
                have z0 := hbb.cell_ 0 rfl
                have z1 := hbb.cell_ 1 rfl
                have z2 := hbb.cell_ 2 rfl
                have z3 := hbb.cell_ 3 rfl
                have z4 := hbb.cell_ 4 rfl
                have z5 := hbb.cell_ 5 rfl
                have z6 := hbb.cell_ 6 rfl
                have z7 := hbb.cell_ 7 rfl
                have z8 := hbb.cell_ 8 rfl
                have x0 := hxx.cell_ 0 rfl
                have x1 := hxx.cell_ 1 rfl
                have x2 := hxx.cell_ 2 rfl
                have x3 := hxx.cell_ 3 rfl
                have x4 := hxx.cell_ 4 rfl
                have x5 := hxx.cell_ 5 rfl
                have x6 := hxx.cell_ 6 rfl
                have x7 := hxx.cell_ 7 rfl
                have x8 := hxx.cell_ 8 rfl
                clear HU
                by_cases hlt : bf < 0
                · have HBN : Hid (BestOk s n lot day (L1 ++ L2) (some x)) := best_new HI.out.ki HXI.out HXK.out HCF.out (o := o) (fun b' hb => by rw [ho] at hb; injection hb with hb; rw [← hb, ← HBF.out]; exact decide_eq_true hlt) (by rw [← HLE.out]; exact HBK.out.2)
                  go_upto_region 8 with fail
                  clear hlt
                  have y0 := hn.cell_ 0 rfl
                  have y1 := hn.cell_ 1 rfl
                  have y2 := hn.cell_ 2 rfl
                  have y3 := hn.cell_ 3 rfl
                  have y4 := hn.cell_ 4 rfl
                  have z0 := hbb.cell_ 0 rfl
                  have z1 := hbb.cell_ 1 rfl
                  have z2 := hbb.cell_ 2 rfl
                  have z3 := hbb.cell_ 3 rfl
                  have z4 := hbb.cell_ 4 rfl
                  have z5 := hbb.cell_ 5 rfl
                  have z6 := hbb.cell_ 6 rfl
                  have z7 := hbb.cell_ 7 rfl
                  have z8 := hbb.cell_ 8 rfl
                  have x0 := hxx.cell_ 0 rfl
                  have x1 := hxx.cell_ 1 rfl
                  have x2 := hxx.cell_ 2 rfl
                  have x3 := hxx.cell_ 3 rfl
                  have x4 := hxx.cell_ 4 rfl
                  have x5 := hxx.cell_ 5 rfl
                  have x6 := hxx.cell_ 6 rfl
                  have x7 := hxx.cell_ 7 rfl
                  have x8 := hxx.cell_ 8 rfl
                  go_wp2_with (refine wpList_store_blk rfl 65 _ _ rfl #[.int .i64 x.id, .int .i64 x.root, .int .i64 x.grade, .int .i64 x.colour, .int .i64 x.lot, .int .i64 x.made, .int .i64 x.width, .int .i64 x.length, .slice A2 x.faults.length c2] hbb rfl rfl (by kernel_rfl) rfl (by simp [Value.oneCell']) ?_; intro W9 hbb9 hc9)
                  clear y0 y1 y2 y3 y4 z0 z1 z2 z3 z4 z5 z6 z7 z8 x0 x1 x2 x3 x4 x5 x6 x7 x8
                  have hS9 : ∀ k, (fun k => k = b0 + 1 + 1) k → NoSpan W k := fun k hk => by have hk : k = b0 + 1 + 1 := hk; subst hk; exact NoSpan.blk hbb (by decide)
                  have hVX9 := HVX.out.chg hc9 hS9
                  have hn9 := hn.chg1 hc9 (by omega)
                  have ht9 := ht.chg1 hc9 (by omega)
                  have hit9 := hit1.same (hc9.block p.ri hit1.map_.lt (by have := HRI.out; omega)) (hc9.block it hit1.lt (by have := HIT.out; omega))
                  have hB9 := hB.trans (hc9.below1 (B := b0) (by have := hn.lt; omega) (by omega))
                  try dsimp only [Act.put]
                  go_roundw
                  case rel => exact ⟨some x, x, A2, c2, L1 ++ L2, hit9, ⟨rfl, HBN.out⟩, HLM2, hn9, ht9, hbb9, hVX9, hB9⟩
                  case measure => rw [HMS.out, hit9.left_eq]; omega
                · have HBN : Hid (BestOk s n lot day (L1 ++ L2) (some b)) := best_keep HI.out.ki HXI.out (by rw [← HBF.out]; exact decide_eq_false hlt) (by rw [← HLE.out, ← ho]; exact HBK.out.2)
                  go_wp2_with fail
                  clear hlt hz
                  clear y0 y1 y2 y3 y4 z0 z1 z2 z3 z4 z5 z6 z7 z8 x0 x1 x2 x3 x4 x5 x6 x7 x8
                  go_roundw
                  case rel => exact ⟨some b, bs, A, c, L1 ++ L2, hit1, ⟨HEB.out, HBN.out⟩, HLM2, hn, ht, hbb, HV, hB⟩
                  case measure => rw [HMS.out, hit1.left_eq]; omega
      · have HCF : Hid (candF s.rules n lot day x = false) := by show _ = _; rw [HCD.out, decide_eq_false h1]; simp
        go_wp2_with fail
        clear h1
        clear y0 y1 y2 y3 y4 z0 z1 z2 z3 z4 z5 z6 z7 z8 x0 x1 x2 x3 x4 x5 x6 x7 x8
        go_roundw
        case rel => exact ⟨o, bs, A, c, L1 ++ L2, hit1, ⟨HBK.out.1, best_skip HI.out.ki HXI.out HCF.out (by rw [← HLE.out]; exact HBK.out.2)⟩, HLM2, hn, ht, hbb, HV, hB⟩
        case measure => rw [HMS.out, hit1.left_eq]; omega
end Go.Proofs.Ytpeokpnjnmgloaa
