/- count of the document. -/
import Derived.Test.YtecaaimaeaocbaaDoorKCount
namespace Go.Proofs.YtecaaimaeaocbaaDoor
open Go Go.RowKit
def RCountAt (f : Nat) : Prop := ∀ (t : Tree) (op nn pc : Int) (A : Option Addr) (k c B g n : Nat) (ls : List Int) (js : List Value) (cU M : Nat) (w : World), Right t → TreeAt w 0 B f t ⟨op, nn, pc, A, k, c⟩ → B ≤ g → Blk w g 3 (intJ ls js) → ls.length = n → BdL M ls → M + (pcsT t).length ≤ 1000000000 →
  Calls Tryd.prog 71 #[.agg #[.int .i64 op, .int .i64 nn, .int .u8 pc, .slice A k c], .slice (some ⟨g, 0, none⟩) n cU] w fun e w' => CntPost g n M ls js t w e w'
set_option maxRecDepth 100000 in
set_option maxHeartbeats 4000000 in
theorem rcount_step (f : Nat) (H : RCountAt f) : RCountAt (f + 1) := by
  intro t op n pc A k c B g m ls js cU M w hr hT hBg hU hn hbd hM
  obtain ⟨h1, -, h3, h4, h5⟩ := hT.head
  dsimp only at h1 h3 h4
  subst h4
  have H1 := hide h1
  have H3 := hide h3
  clear h1 h3
  have HH := hide H
  have HR := hide hr
  have HSP := hide (right_split hr)
  have HBD := hide hbd
  have HMM := hide hM
  have HN := hide hn
  have hfew := right_few hr
  have hgl := hU.lt
  clear H hr hbd hM hn
  have hk := Blk.new w 60 #[.int .i64 op, .int .i64 n, .int .u8 pc, .slice A t.ts.length c]
  have hb0 := (Below.refl w.heap.size w).alloc (Nat.le_refl _) (.cells #[.int .i64 op, .int .i64 n, .int .u8 pc, .slice A t.ts.length c] 60)
  replace hU := hU.alloc (.cells #[.int .i64 op, .int .i64 n, .int .u8 pc, .slice A t.ts.length c] 60)
  replace hT := hT.belowB hb0 (by omega)
  have hC : ChgG g w _ := ChgG.alloc_ (Chg.refl _ w) (.cells #[.int .i64 op, .int .i64 n, .int .u8 pc, .slice A t.ts.length c] 60)
  clear hb0
  go_enter Tryd.func71, Tryd.ntmps71
  go_upto_region 1 with fail
  generalize w.alloc (.cells #[.int .i64 op, .int .i64 n, .int .u8 pc, .slice A t.ts.length c] 60) = W at *
  have q0 := hk.cell_ 0 (v := .int .i64 op) rfl
  have q2 := hk.cell_ 2 (v := .int .u8 pc) rfl
  by_cases hbad : op = 1 ∧ ¬ pc - 97 < (m : Int)
  · obtain ⟨o1, hb2⟩ := hbad
    obtain ⟨k0, e1, e2, e3, e4⟩ := right_pc HR.out (H1.out ▸ o1)
    have f1 : (op == 1) = true := by simp [o1]
    have hpc : pc = (97 + k0 : Int) := by rw [H3.out]; exact e1
    have f2 : IntKind.u8.wrap (pc - 97) = (k0 : Int) := by
      have : pc - 97 = (k0 : Int) := by omega
      rw [this]; exact IntWalk.u8_in _ (by omega)
    have f3 : IntKind.i64.wrap (k0 : Int) = (k0 : Int) := IntWalk.i64_in _ (by omega)
    have f4 : (m : Int) ≤ (k0 : Int) := by omega
    have HV : Hid (okN m (pcsT t) = false) := by
      show _ = _
      rw [HSP.out, e4, okN_app]
      have : okN m [t.pc] = false := by unfold okN; rw [List.all_cons, List.all_nil, decide_eq_false (by rw [← H3.out]; exact hb2)]; rfl
      rw [this]; rfl
    clear e1 e2 e3 e4 hpc hb2 o1
    go_wp2_with fail
    go_ret
    refine ⟨ls, ret_bool HV.out.symm, hU, HN.out, chg_far hC, fun h => (by rw [HV.out] at h; cases h), fun x hx => ?_⟩
    have := HBD.out x hx
    push_cast; omega
  · obtain ⟨ls1, hls1⟩ : ∃ l, addP ls (ownP t) = l := ⟨_, rfl⟩
    have HL1 := hide hls1
    have hl1 : ls1.length = m := by rw [← hls1, addP_len]; exact HN.out
    have HOK : Hid (okN m (ownP t) = true) := by
      show _ = _
      unfold ownP
      by_cases o1 : t.op = 1
      · rw [if_pos o1]
        have : ¬ ¬ pc - 97 < (m : Int) := fun h => hbad ⟨H1.out.trans o1, h⟩
        unfold okN
        rw [List.all_cons, List.all_nil, decide_eq_true (by rw [← H3.out]; omega)]; rfl
      · rw [if_neg o1]; rfl
    have HB1 : Hid (BdL (M + (ownP t).length) ls1) := by
      show BdL _ _
      by_cases o1 : t.op = 1
      · obtain ⟨k0, e1, e2, e3, e4⟩ := right_pc HR.out o1
        have hlt : k0 < ls.length := by
          have : ¬ ¬ pc - 97 < (m : Int) := fun h => hbad ⟨H1.out.trans o1, h⟩
          have := HN.out
          have := H3.out
          omega
        rw [← hls1, own_add e1 e4 (List.getElem?_eq_getElem hlt), e4]
        have := HBD.out _ (List.getElem_mem hlt)
        exact set_bd HBD.out k0 (by omega)
      · rw [← hls1, own_none o1]
        exact HBD.out
    clear hls1
    go_upto_if 10 with fail
    go_cut [] (fun wx => Blk wx g 3 (intJ ls1 js) ∧ Blk wx w.heap.size 60 #[.int .i64 op, .int .i64 n, .int .u8 pc, .slice A t.ts.length c] ∧ TreeAt wx 0 B (f + 1) t ⟨op, n, pc, A, t.ts.length, c⟩ ∧ ChgG g w wx)
    case first =>
      by_cases o1 : op = 1
      · obtain ⟨k0, e1, e2, e3, e4⟩ := right_pc HR.out (H1.out ▸ o1)
        have hlt : k0 < ls.length := by
          have : ¬ ¬ pc - 97 < (m : Int) := fun h => hbad ⟨o1, h⟩
          have := HN.out
          have := H3.out
          omega
        have f1 : (op == 1) = true := by simp [o1]
        have f2 : IntKind.u8.wrap (pc - 97) = (k0 : Int) := by
          have : pc - 97 = (k0 : Int) := by have := H3.out; omega
          rw [this]; exact IntWalk.u8_in _ (by omega)
        have f3 : IntKind.i64.wrap (k0 : Int) = (k0 : Int) := IntWalk.i64_in _ (by omega)
        have hmk : k0 < m := by have := HN.out; omega
        have f4 : ¬ (m : Int) ≤ (k0 : Int) := by omega
        have f5 : (k0 : Int) < (m : Int) := by omega
        obtain ⟨v, hv⟩ : ∃ v, ls[k0]? = some v := ⟨_, List.getElem?_eq_getElem hlt⟩
        have hvb := HBD.out v (List.mem_of_getElem? hv)
        have f6 : IntKind.i64.wrap (v + 1) = v + 1 := IntWalk.i64_in _ (by have := HMM.out; omega)
        have u0 := hU.cell_ k0 (intJ_get hv)
        have HLS : Hid (intJ ls1 js = (intJ ls js).setIfInBounds k0 (.int .i64 (v + 1))) := by
          show _ = _
          rw [intJ_set hlt, ← HL1.out, own_add e1 e4 hv]
        have HIL : Hid (k0 < (intJ ls js).size) := intJ_lt hlt
        clear e1 e2 e3 e4 hv hlt hmk o1
        go_wp2_with (refine wpList_store_at rfl 3 _ _ rfl (.int .i64 (v + 1)) hU rfl rfl (by kernel_rfl) rfl HIL.out rfl ?_; intro W3 hU3 hc3)
        go_meet
        rw [← HLS.out] at hU3
        exact ⟨hU3, hk.chg1 hc3 (by omega), hT.chgB hc3 hBg hU.lt, hC.step hc3 (.inl rfl)⟩
      · have f1 : (op == 1) = false := by simp [o1]
        have HLS : Hid (ls1 = ls) := by
          show _ = _
          rw [← HL1.out, own_none (fun h => o1 (H1.out.trans h))]; rfl
        clear o1
        go_wp2_with fail
        go_meet
        exact ⟨by rw [HLS.out]; exact hU, hk, hT, hC⟩
    case rest =>
      clear hU hk hT hC q0 q2 hbad
      obtain ⟨hU, hk, hT, hC⟩ := hcut
      obtain ⟨W, rfl⟩ : ∃ W : World, W = wc := ⟨_, rfl⟩
      have q3 := hk.cell_ 3 (v := .slice A t.ts.length c) rfl
      go_wp2_with fail
      clear q3
      go_loopw [6, 7] (fun z y wr => ∃ (i : Nat) (lk : List Int) (ok : Bool), z = .bool ok ∧ y = .int .i64 i ∧ i ≤ t.ts.length ∧ lk.length = m ∧ Hid (BdL (M + (ownP t ++ (t.ts.take i).flatMap pcsT).length) lk ∧ okN m (ownP t ++ (t.ts.take i).flatMap pcsT) = ok ∧ (ok = true → lk = addP ls (ownP t ++ (t.ts.take i).flatMap pcsT))) ∧ Blk wr g 3 (intJ lk js) ∧ Blk wr w.heap.size 60 #[.int .i64 op, .int .i64 n, .int .u8 pc, .slice A t.ts.length c] ∧ TreeAt wr 0 B (f + 1) t ⟨op, n, pc, A, t.ts.length, c⟩ ∧ ChgG g w wr) (fun _ y _ => t.ts.length - (intOf y).toNat)
      case atStart => exact ⟨0, ls1, true, rfl, rfl, Nat.zero_le _, hl1, ⟨by simpa using HB1.out, by simpa using HOK.out, fun _ => by simpa using HL1.out.symm⟩, hU, hk, hT, hC⟩
      case round =>
        clear hU hk hT hC
        obtain ⟨W, rfl⟩ : ∃ W : World, W = wr := ⟨_, rfl⟩
        obtain ⟨i, lk, ok0, rfl, rfl, hi, hlk, HI, hU, hk, hT, hC⟩ := hrel
        have q3 := hk.cell_ 3 (v := .slice A t.ts.length c) rfl
        by_cases hlt : i < t.ts.length
        · obtain ⟨t', o1, n1, p1, A1, k1, c1, b, off, ht, hA, _, hT1, d0, d1, d2, d3⟩ := part_at hT hlt
          have hii : (i : Int) < (t.ts.length : Int) := by omega
          dsimp only at hA
          have HT := hide ht
          clear ht
          subst hA
          have HMB : Hid (M + (ownP t ++ (t.ts.take i).flatMap pcsT).length + (pcsT t').length ≤ 1000000000) := by
            show _ ≤ _
            have e1 := HMM.out
            rw [HSP.out, List.length_append] at e1
            have e2 := flat_le t (i + 1)
            rw [flat_snoc HT.out, List.length_append] at e2
            rw [List.length_append]; omega
          have e2 : IntKind.i64.wrap ((i : Int) + 1) = ((i + 1 : Nat) : Int) := by rw [IntWalk.i64_in _ (by omega)]; push_cast; rfl
          obtain ⟨ok, hok⟩ : ∃ ok, okN m (pcsT t') = ok := ⟨_, rfl⟩
          go_wp2_with fail
          refine (HH.out t' o1 n1 p1 A1 k1 c1 B g m lk js cU _ W (right_part HR.out HT.out) hT1 hBg hU hlk HI.out.1 HMB.out).mono ?_
          rintro e W4 ⟨lk2, he, hU2, hl2, hc2, hadd, hbd2⟩
          rw [hok] at he hadd
          subst he
          have hC2 := hC.step hc2 (.inl rfl)
          have hT2 := hT.chgB hc2 hBg hU.lt
          have hk2 := hk.chg1 hc2 (by omega)
          have HOKP := hide hok
          have HAD := hide hadd
          have HB2 := hide hbd2
          have HBD2 : Hid (BdL (M + (ownP t ++ (t.ts.take (i + 1)).flatMap pcsT).length) lk2) := by
            show BdL _ _
            rw [flat_snoc HT.out, ← List.append_assoc, List.length_append, ← Nat.add_assoc]; exact HB2.out
          have HOK2 : Hid (okN m (ownP t ++ (t.ts.take (i + 1)).flatMap pcsT) = (ok0 && ok)) := by
            show _ = _
            rw [flat_snoc HT.out, ← List.append_assoc, okN_app, HI.out.2.1, HOKP.out]
          have HAD2 : Hid ((ok0 && ok) = true → lk2 = addP ls (ownP t ++ (t.ts.take (i + 1)).flatMap pcsT)) := fun h => by
            rw [Bool.and_eq_true] at h
            rw [flat_snoc HT.out, ← List.append_assoc, addP_app, ← HI.out.2.2 h.1]; exact HAD.out h.2
          clear hU hk hT hT1 hC d0 d1 d2 d3 q3 hc2 hok hadd hbd2
          cases ok with
          | false =>
            go_wp2_with fail
            go_roundw
            case rel => exact ⟨i + 1, lk2, false, by go_num, by go_num, by omega, hl2, ⟨HBD2.out, by rw [HOK2.out, Bool.and_false], fun h => (by cases h)⟩, hU2, hk2, hT2, hC2⟩
            case measure => simp [intOf]; omega
          | true =>
            go_wp2_with fail
            go_roundw
            case rel => exact ⟨i + 1, lk2, ok0, by go_num, by go_num, by omega, hl2, ⟨HBD2.out, by rw [HOK2.out, Bool.and_true], fun h => HAD2.out (by rw [h]; rfl)⟩, hU2, hk2, hT2, hC2⟩
            case measure => simp [intOf]; omega
        · obtain rfl : i = t.ts.length := by omega
          have HV : Hid (okN m (pcsT t) = ok0 ∧ (ok0 = true → lk = addP ls (pcsT t)) ∧ BdL (M + (pcsT t).length) lk) := by
            have := HI.out
            rw [List.take_length] at this
            rw [← HSP.out] at this
            exact ⟨this.2.1, this.2.2, this.1⟩
          go_wp2_with fail
          go_ret
          exact ⟨lk, ret_bool HV.out.1.symm, hU, hlk, chg_far hC, fun h => HV.out.2.1 (by rw [← HV.out.1]; exact h), HV.out.2.2⟩
theorem rcount_all : ∀ f, RCountAt f
  | 0 => fun t op nn pc A k c B g n ls js cU M w hr h => h.elim
  | f + 1 => rcount_step f (rcount_all f)
end Go.Proofs.YtecaaimaeaocbaaDoor
