/- count of both texts: how many pieces of each kind a tree has. -/
import Derived.Test.YtecaaimaeaocbaaDoorKParse
import Derived.Test.YtecaaimaeaocbaaDoorKClone
import Derived.Deep.DeepCutAuto
import Derived.WalkMore
namespace Go.Proofs.YtecaaimaeaocbaaDoor
open Go Go.RowKit
def okN (n : Nat) (ps : List Int) : Bool := ps.all fun p => decide (p - 97 < (n : Int))
def BdL (M : Nat) (ls : List Int) : Prop := ∀ x ∈ ls, 0 ≤ x ∧ x ≤ (M : Int)
/-- a node's own piece -/
def ownP (t : Tree) : List Int := if t.op = 1 then [t.pc] else []
theorem right_split {t : Tree} (h : Right t) : pcsT t = ownP t ++ t.ts.flatMap pcsT := by
  cases h with
  | waste => rfl
  | piece pc => simp [pcsT, ownP, Tree.ts, Tree.op, Tree.pc]
  | cut op n a b hop =>
    have h1 : ownP (.node op n 0 [a, b]) = [] := by
      show (if op = 1 then [(0 : Int)] else []) = []
      rw [if_neg (by omega)]
    rw [h1]
    simp [pcsT, Tree.ts]
theorem right_part {t t' : Tree} (h : Right t) {i : Nat} (hi : t.ts[i]? = some t') : Right t' := by
  cases h with
  | waste => simp [Tree.ts] at hi
  | piece pc => simp [Tree.ts] at hi
  | cut op n a b hop _ _ ra rb =>
    match i with
    | 0 => simp [Tree.ts] at hi; subst hi; exact ra
    | 1 => simp [Tree.ts] at hi; subst hi; exact rb
    | i + 2 => simp [Tree.ts] at hi
theorem right_pc {t : Tree} (h : Right t) (h1 : t.op = 1) : ∃ k : Nat, t.pc = 97 + k ∧ k ≤ 25 ∧ t.ts = [] ∧ ownP t = [t.pc] := by
  cases h with
  | waste => cases h1
  | piece pc a b => exact ⟨pc - 97, by show (pc : Int) = _; omega, by omega, rfl, by unfold ownP; rw [if_pos h1]⟩
  | cut op n a b hop =>
    have : op = 1 := h1
    omega
theorem right_few {t : Tree} (h : Right t) : t.ts.length ≤ 2 := by cases h <;> simp [Tree.ts]
theorem own_none {t : Tree} (h1 : t.op ≠ 1) : ownP t = [] := by unfold ownP; rw [if_neg h1]
theorem flat_snoc {t t' : Tree} {i : Nat} (h : t.ts[i]? = some t') : (t.ts.take (i + 1)).flatMap pcsT = (t.ts.take i).flatMap pcsT ++ pcsT t' := by
  rw [List.take_add_one, h]; simp
theorem flat_le (t : Tree) (i : Nat) : ((t.ts.take i).flatMap pcsT).length ≤ (t.ts.flatMap pcsT).length := by
  have h := congrArg List.length (show (t.ts.take i ++ t.ts.drop i).flatMap pcsT = t.ts.flatMap pcsT by rw [List.take_append_drop])
  rw [List.flatMap_append, List.length_append] at h
  omega
theorem okN_app (n : Nat) (a b : List Int) : okN n (a ++ b) = (okN n a && okN n b) := List.all_append
theorem okN_part {n : Nat} {t t' : Tree} (hr : Right t) {i : Nat} (h : t.ts[i]? = some t') (hf : okN n (pcsT t') = false) : okN n (pcsT t) = false := by
  rw [right_split hr]
  have e : t.ts = t.ts.take i ++ t' :: t.ts.drop (i + 1) := by
    have h2 := (List.getElem?_eq_some_iff.1 h).2
    rw [← h2, ← List.drop_eq_getElem_cons, List.take_append_drop]
  rw [e]
  simp only [List.flatMap_append, List.flatMap_cons, okN_app, hf, Bool.false_and, Bool.and_false]
theorem set_bd {M : Nat} {ls : List Int} (h : BdL M ls) (k : Nat) {v : Int} (hv : 0 ≤ v ∧ v ≤ (M : Int) + 1) : BdL (M + 1) (ls.set k v) := fun x hx => by
  rcases List.mem_or_eq_of_mem_set hx with h1 | h1
  · have := h x h1; push_cast; omega
  · subst h1; push_cast; omega
theorem TreeAt.chgB {w w' : World} {L B f g : Nat} {t : Tree} {v : TV} (h : TreeAt w L B f t v) (hc : Chg (fun k => k = g) w w') (hB : B ≤ g) (hg : g < w.heap.size) : TreeAt w' L B f t v :=
  h.keep (fun p _ hp => World.cell?_of_block (hc.block p.block (by omega) (by omega))) (Nat.le_refl _) (Nat.le_refl _)
theorem TreeAt.belowB {w w' : World} {L B f : Nat} {t : Tree} {v : TV} (h : TreeAt w L B f t v) (hb : Below w.heap.size w w') (hB : B ≤ w.heap.size) : TreeAt w' L B f t v :=
  h.keep (fun p _ hp => hb.cell (by omega)) (Nat.le_refl _) (Nat.le_refl _)
def CntPost (g n M : Nat) (ls : List Int) (js : List Value) (t : Tree) (w : World) (e : Ending) (w' : World) : Prop :=
  ∃ ls' : List Int, e = .returned (.bool (okN n (pcsT t))) ∧ Blk w' g 3 (intJ ls' js) ∧ ls'.length = n ∧ Chg (fun k => k = g) w w' ∧ (okN n (pcsT t) = true → ls' = addP ls (pcsT t)) ∧ BdL (M + (pcsT t).length) ls'
def CountAt (f : Nat) : Prop := ∀ (t : Tree) (op nn pc : Int) (A : Option Addr) (k c B g n : Nat) (ls : List Int) (js : List Value) (cU M : Nat) (w : World), Right t → TreeAt w 0 B f t ⟨op, nn, pc, A, k, c⟩ → B ≤ g → Blk w g 3 (intJ ls js) → ls.length = n → BdL M ls → M + (pcsT t).length ≤ 1000000000 →
  Calls Tryd.prog 69 #[.agg #[.int .i64 op, .int .i64 nn, .int .u8 pc, .slice A k c], .slice (some ⟨g, 0, none⟩) n cU] w fun e w' => CntPost g n M ls js t w e w'
/-- the piece of its own, counted -/
theorem own_add {ls : List Int} {t : Tree} {k0 : Nat} {v : Int} (hp : t.pc = 97 + (k0 : Int)) (ho : ownP t = [t.pc]) (hv : ls[k0]? = some v) : addP ls (ownP t) = ls.set k0 (v + 1) := by
  rw [ho, hp]
  unfold addP
  rw [List.foldl_cons, List.foldl_nil, show ((97 : Int) + k0 - 97).toNat = k0 by omega, List.getD_eq_getElem?_getD, hv]; rfl
def CELLS (op nn pc : Int) (A : Option Addr) (k c : Nat) : Array Value := #[.int .i64 op, .int .i64 nn, .int .u8 pc, .slice A k c]
set_option maxRecDepth 100000 in
set_option maxHeartbeats 4000000 in
theorem count_step (f : Nat) (H : CountAt f) : CountAt (f + 1) := by
  intro t op n pc A k c B g m ls js cU M w hr hT hBg hU hn hbd hM
  obtain ⟨h1, -, h3, h4, h5⟩ := hT.head
  dsimp only at h1 h3 h4
  subst h4
  have H1 := hide h1
  have H3 := hide h3
  clear h1 h3
  have HH := hide H
  have HR := hide hr
  have HSP := hide (right_split hr)
  have HBD := hide hbd
  have HMM := hide hM
  have HN := hide hn
  have hfew := right_few hr
  have hgl := hU.lt
  clear H hr hbd hM hn
  have hk := Blk.new w 60 #[.int .i64 op, .int .i64 n, .int .u8 pc, .slice A t.ts.length c]
  have hb0 := (Below.refl w.heap.size w).alloc (Nat.le_refl _) (.cells #[.int .i64 op, .int .i64 n, .int .u8 pc, .slice A t.ts.length c] 60)
  replace hU := hU.alloc (.cells #[.int .i64 op, .int .i64 n, .int .u8 pc, .slice A t.ts.length c] 60)
  replace hT := hT.belowB hb0 (by omega)
  have hC : ChgG g w _ := ChgG.alloc_ (Chg.refl _ w) (.cells #[.int .i64 op, .int .i64 n, .int .u8 pc, .slice A t.ts.length c] 60)
  clear hb0
  go_enter Tryd.func69, Tryd.ntmps69
  go_upto_region 1 with fail
  generalize w.alloc (.cells #[.int .i64 op, .int .i64 n, .int .u8 pc, .slice A t.ts.length c] 60) = W at *
  have q0 := hk.cell_ 0 (v := .int .i64 op) rfl
  have q2 := hk.cell_ 2 (v := .int .u8 pc) rfl
  by_cases hbad : op = 1 ∧ ¬ pc - 97 < (m : Int)
  · obtain ⟨o1, hb2⟩ := hbad
    obtain ⟨k0, e1, e2, e3, e4⟩ := right_pc HR.out (H1.out ▸ o1)
    have f1 : (op == 1) = true := by simp [o1]
    have hpc : pc = (97 + k0 : Int) := by rw [H3.out]; exact e1
    have f2 : IntKind.u8.wrap (pc - 97) = (k0 : Int) := by
      have : pc - 97 = (k0 : Int) := by omega
      rw [this]; exact IntWalk.u8_in _ (by omega)
    have f3 : IntKind.i64.wrap (k0 : Int) = (k0 : Int) := IntWalk.i64_in _ (by omega)
    have f4 : (m : Int) ≤ (k0 : Int) := by omega
    have HV : Hid (okN m (pcsT t) = false) := by
      show _ = _
      rw [HSP.out, e4, okN_app]
      have : okN m [t.pc] = false := by unfold okN; rw [List.all_cons, List.all_nil, decide_eq_false (by rw [← H3.out]; exact hb2)]; rfl
      rw [this]; rfl
    clear e1 e2 e3 e4 hpc hb2 o1
    go_wp2_with fail
    go_ret
    refine ⟨ls, ret_bool HV.out.symm, hU, HN.out, chg_far hC, fun h => (by rw [HV.out] at h; cases h), fun x hx => ?_⟩
    have := HBD.out x hx
    push_cast; omega
  · obtain ⟨ls1, hls1⟩ : ∃ l, addP ls (ownP t) = l := ⟨_, rfl⟩
    have HL1 := hide hls1
    have hl1 : ls1.length = m := by rw [← hls1, addP_len]; exact HN.out
    have HOK : Hid (okN m (ownP t) = true) := by
      show _ = _
      unfold ownP
      by_cases o1 : t.op = 1
      · rw [if_pos o1]
        have : ¬ ¬ pc - 97 < (m : Int) := fun h => hbad ⟨H1.out.trans o1, h⟩
        unfold okN
        rw [List.all_cons, List.all_nil, decide_eq_true (by rw [← H3.out]; omega)]; rfl
      · rw [if_neg o1]; rfl
    have HB1 : Hid (BdL (M + (ownP t).length) ls1) := by
      show BdL _ _
      by_cases o1 : t.op = 1
      · obtain ⟨k0, e1, e2, e3, e4⟩ := right_pc HR.out o1
        have hlt : k0 < ls.length := by
          have : ¬ ¬ pc - 97 < (m : Int) := fun h => hbad ⟨H1.out.trans o1, h⟩
          have := HN.out
          have := H3.out
          omega
        rw [← hls1, own_add e1 e4 (List.getElem?_eq_getElem hlt), e4]
        have := HBD.out _ (List.getElem_mem hlt)
        exact set_bd HBD.out k0 (by omega)
      · rw [← hls1, own_none o1]
        exact HBD.out
    clear hls1
    go_upto_if 10 with fail
    go_cut [] (fun wx => Blk wx g 3 (intJ ls1 js) ∧ Blk wx w.heap.size 60 #[.int .i64 op, .int .i64 n, .int .u8 pc, .slice A t.ts.length c] ∧ TreeAt wx 0 B (f + 1) t ⟨op, n, pc, A, t.ts.length, c⟩ ∧ ChgG g w wx)
    case first =>
      by_cases o1 : op = 1
      · obtain ⟨k0, e1, e2, e3, e4⟩ := right_pc HR.out (H1.out ▸ o1)
        have hlt : k0 < ls.length := by
          have : ¬ ¬ pc - 97 < (m : Int) := fun h => hbad ⟨o1, h⟩
          have := HN.out
          have := H3.out
          omega
        have f1 : (op == 1) = true := by simp [o1]
        have f2 : IntKind.u8.wrap (pc - 97) = (k0 : Int) := by
          have : pc - 97 = (k0 : Int) := by have := H3.out; omega
          rw [this]; exact IntWalk.u8_in _ (by omega)
        have f3 : IntKind.i64.wrap (k0 : Int) = (k0 : Int) := IntWalk.i64_in _ (by omega)
        have hmk : k0 < m := by have := HN.out; omega
        have f4 : ¬ (m : Int) ≤ (k0 : Int) := by omega
        have f5 : (k0 : Int) < (m : Int) := by omega
        obtain ⟨v, hv⟩ : ∃ v, ls[k0]? = some v := ⟨_, List.getElem?_eq_getElem hlt⟩
        have hvb := HBD.out v (List.mem_of_getElem? hv)
        have f6 : IntKind.i64.wrap (v + 1) = v + 1 := IntWalk.i64_in _ (by have := HMM.out; omega)
        have u0 := hU.cell_ k0 (intJ_get hv)
        have HLS : Hid (intJ ls1 js = (intJ ls js).setIfInBounds k0 (.int .i64 (v + 1))) := by
          show _ = _
          rw [intJ_set hlt, ← HL1.out, own_add e1 e4 hv]
        have HIL : Hid (k0 < (intJ ls js).size) := intJ_lt hlt
        clear e1 e2 e3 e4 hv hlt hmk o1
        go_wp2_with (refine wpList_store_at rfl 3 _ _ rfl (.int .i64 (v + 1)) hU rfl rfl (by kernel_rfl) rfl HIL.out rfl ?_; intro W3 hU3 hc3)
        go_meet
        rw [← HLS.out] at hU3
        exact ⟨hU3, hk.chg1 hc3 (by omega), hT.chgB hc3 hBg hU.lt, hC.step hc3 (.inl rfl)⟩
      · have f1 : (op == 1) = false := by simp [o1]
        have HLS : Hid (ls1 = ls) := by
          show _ = _
          rw [← HL1.out, own_none (fun h => o1 (H1.out.trans h))]; rfl
        clear o1
        go_wp2_with fail
        go_meet
        exact ⟨by rw [HLS.out]; exact hU, hk, hT, hC⟩
    case rest =>
      clear hU hk hT hC q0 q2 hbad
      obtain ⟨hU, hk, hT, hC⟩ := hcut
      obtain ⟨W, rfl⟩ : ∃ W : World, W = wc := ⟨_, rfl⟩
      have q3 := hk.cell_ 3 (v := .slice A t.ts.length c) rfl
      go_wp2_with fail
      clear q3
      go_loopw [28] (fun y wr => ∃ (i : Nat) (lk : List Int), y = .int .i64 i ∧ i ≤ t.ts.length ∧ lk.length = m ∧ Hid (BdL (M + (ownP t ++ (t.ts.take i).flatMap pcsT).length) lk ∧ okN m (ownP t ++ (t.ts.take i).flatMap pcsT) = true ∧ lk = addP ls (ownP t ++ (t.ts.take i).flatMap pcsT)) ∧ Blk wr g 3 (intJ lk js) ∧ TreeAt wr 0 B (f + 1) t ⟨op, n, pc, A, t.ts.length, c⟩ ∧ ChgG g w wr) (fun y _ => t.ts.length - (intOf y).toNat)
      case atStart => exact ⟨0, ls1, rfl, Nat.zero_le _, hl1, ⟨by simpa using HB1.out, by simpa using HOK.out, by simpa using HL1.out.symm⟩, hU, hT, hC⟩
      case round =>
        clear hU hk hT hC
        obtain ⟨W, rfl⟩ : ∃ W : World, W = wr := ⟨_, rfl⟩
        obtain ⟨i, lk, rfl, hi, hlk, HI, hU, hT, hC⟩ := hrel
        by_cases hlt : i < t.ts.length
        · obtain ⟨t', o1, n1, p1, A1, k1, c1, b, off, ht, hA, _, hT1, d0, d1, d2, d3⟩ := part_at hT hlt
          have hii : (i : Int) < (t.ts.length : Int) := by omega
          dsimp only at hA
          have HT := hide ht
          clear ht
          subst hA
          have lb : B ≤ W.heap.size := by have := hU.lt; omega
          have hb0 := (Below.refl W.heap.size W).alloc (Nat.le_refl _) (.cells #[.int .i64 o1, .int .i64 n1, .int .u8 p1, .slice A1 k1 c1] 60)
          have hp := Blk.new W 60 #[.int .i64 o1, .int .i64 n1, .int .u8 p1, .slice A1 k1 c1]
          replace hU := hU.alloc (.cells #[.int .i64 o1, .int .i64 n1, .int .u8 p1, .slice A1 k1 c1] 60)
          replace hT := hT.belowB hb0 lb
          replace hT1 := hT1.belowB hb0 lb
          replace hC := hC.alloc_ (.cells #[.int .i64 o1, .int .i64 n1, .int .u8 p1, .slice A1 k1 c1] 60)
          clear hb0 lb
          go_upto_region 9 with fail
          clear d0 d1 d2 d3
          generalize W.alloc (.cells #[.int .i64 o1, .int .i64 n1, .int .u8 p1, .slice A1 k1 c1] 60) = W3 at *
          have d0 := hp.cell_ 0 (v := .int .i64 o1) rfl
          have d1 := hp.cell_ 1 (v := .int .i64 n1) rfl
          have d2 := hp.cell_ 2 (v := .int .u8 p1) rfl
          have d3 := hp.cell_ 3 (v := .slice A1 k1 c1) rfl
          have HMB : Hid (M + (ownP t ++ (t.ts.take i).flatMap pcsT).length + (pcsT t').length ≤ 1000000000) := by
            show _ ≤ _
            have e1 := HMM.out
            rw [HSP.out, List.length_append] at e1
            have e2 := flat_le t (i + 1)
            rw [flat_snoc HT.out, List.length_append] at e2
            rw [List.length_append]; omega
          have e2 : IntKind.i64.wrap ((i : Int) + 1) = ((i + 1 : Nat) : Int) := by rw [IntWalk.i64_in _ (by omega)]; push_cast; rfl
          obtain ⟨ok, hok⟩ : ∃ ok, okN m (pcsT t') = ok := ⟨_, rfl⟩
          go_wp2_with fail
          refine (HH.out t' o1 n1 p1 A1 k1 c1 B g m lk js cU _ W3 (right_part HR.out HT.out) hT1 hBg hU hlk HI.out.1 HMB.out).mono ?_
          rintro e W4 ⟨lk2, he, hU2, hl2, hc2, hadd, hbd2⟩
          rw [hok] at he hadd
          subst he
          have hC2 := hC.step hc2 (.inl rfl)
          have hT2 := hT.chgB hc2 hBg hU.lt
          have HOKP := hide hok
          have HAD := hide hadd
          have HB2 := hide hbd2
          clear hU hT hT1 hC hp d0 d1 d2 d3 hc2 hok hadd hbd2
          cases ok with
          | false =>
            have HV : Hid (okN m (pcsT t) = false) := okN_part HR.out HT.out HOKP.out
            go_wp2_with fail
            go_ret
            refine ⟨lk2, ret_bool HV.out.symm, hU2, hl2, chg_far hC2, fun h => (by rw [HV.out] at h; cases h), fun x hx => ?_⟩
            have h1 := HB2.out x hx
            have h2 := flat_le t (i + 1)
            rw [flat_snoc HT.out, List.length_append] at h2
            rw [HSP.out, List.length_append]
            rw [List.length_append] at h1
            push_cast at h1 ⊢; omega
          | true =>
            go_wp2_with fail
            go_roundw
            case rel =>
              refine ⟨i + 1, lk2, by go_num, by omega, hl2, ⟨?_, ?_, ?_⟩, hU2, hT2, hC2⟩
              · rw [flat_snoc HT.out, ← List.append_assoc, List.length_append, ← Nat.add_assoc]; exact HB2.out
              · rw [flat_snoc HT.out, ← List.append_assoc, okN_app, HI.out.2.1, HOKP.out]; rfl
              · rw [flat_snoc HT.out, ← List.append_assoc, addP_app, ← HI.out.2.2]; exact HAD.out (by simp)
            case measure => simp [intOf]; omega
        · obtain rfl : i = t.ts.length := by omega
          have HV : Hid (okN m (pcsT t) = true ∧ lk = addP ls (pcsT t) ∧ BdL (M + (pcsT t).length) lk) := by
            have := HI.out
            rw [List.take_length] at this
            rw [← HSP.out] at this
            exact ⟨this.2.1, this.2.2, this.1⟩
          go_wp2_with fail
          go_ret
          exact ⟨lk, ret_bool HV.out.1.symm, hU, hlk, chg_far hC, fun _ => HV.out.2.1, HV.out.2.2⟩
theorem count_all : ∀ f, CountAt f
  | 0 => fun t op nn pc A k c B g n ls js cU M w hr h => h.elim
  | f + 1 => count_step f (count_all f)
end Go.Proofs.YtecaaimaeaocbaaDoor
