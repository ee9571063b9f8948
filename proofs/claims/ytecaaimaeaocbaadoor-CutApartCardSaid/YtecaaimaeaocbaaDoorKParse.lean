/- Parse of the program: the tree of a text, or an error. -/
import Derived.Test.YtecaaimaeaocbaaDoorKDeep
namespace Go.Proofs.YtecaaimaeaocbaaDoor
open Go Go.RowKit
def leaf0 : Tree := .node 0 0 0 []
/-- the tree of a text that is one of a cut -/
def parsed (s : ByteArray) : Option Tree := match cutT (s.size + 1) (byt s) with
  | some (t, []) => some t
  | _ => none
def parseE (s : ByteArray) : Int := if 2000 < s.size then 43 else match parsed s with
  | none => 4
  | some t => if 20 < htT t then 43 else 0
def parseT (s : ByteArray) : Tree := if 2000 < s.size then leaf0 else match parsed s with
  | none => leaf0
  | some t => if 20 < htT t then leaf0 else t
theorem parsed_some {s : ByteArray} {t : Tree} (h : parsed s = some t) : byt s = textT t ∧ Right t ∧ htT t ≤ s.size := by
  unfold parsed at h
  split at h
  · rename_i t0 h0
    injection h with h
    subst h
    obtain ⟨h1, h2⟩ := cut_text h0
    rw [List.append_nil] at h1
    refine ⟨h1, h2, ?_⟩
    have := ht_text h2
    rw [← h1, byt_len] at this
    exact this
  · cases h
theorem parsed_of {s : ByteArray} {t : Tree} (h : cutT (s.size + 1) (byt s) = some (t, [])) : parsed s = some t := by
  unfold parsed; rw [h]
theorem parsed_none {s : ByteArray} (h : cutT (s.size + 1) (byt s) = none) : parsed s = none := by
  unfold parsed; rw [h]
theorem parsed_rest {s : ByteArray} {t : Tree} {l : Bs} (h : cutT (s.size + 1) (byt s) = some (t, l)) (hl : l ≠ []) : parsed s = none := by
  unfold parsed
  rw [h]
  cases l with
  | nil => exact absurd rfl hl
  | cons c l => rfl
theorem parse_long {s : ByteArray} (h : 2000 < s.size) : parseE s = 43 ∧ parseT s = leaf0 := ⟨by unfold parseE; rw [if_pos h], by unfold parseT; rw [if_pos h]⟩
theorem parse_form {s : ByteArray} (h : ¬ 2000 < s.size) (hp : parsed s = none) : parseE s = 4 ∧ parseT s = leaf0 := ⟨by unfold parseE; rw [if_neg h, hp], by unfold parseT; rw [if_neg h, hp]⟩
theorem parse_deep {s : ByteArray} {t : Tree} (h : ¬ 2000 < s.size) (hp : parsed s = some t) (ht : 20 < htT t) : parseE s = 43 ∧ parseT s = leaf0 := ⟨by unfold parseE; rw [if_neg h, hp]; exact if_pos ht, by unfold parseT; rw [if_neg h, hp]; exact if_pos ht⟩
theorem parse_ok {s : ByteArray} {t : Tree} (h : ¬ 2000 < s.size) (hp : parsed s = some t) (ht : ¬ 20 < htT t) : parseE s = 0 ∧ parseT s = t := ⟨by unfold parseE; rw [if_neg h, hp]; exact if_neg ht, by unfold parseT; rw [if_neg h, hp]; exact if_neg ht⟩
/-- what a call of Parse returns -/
def ParsePost (s : ByteArray) (w : World) (e : Ending) (w' : World) : Prop :=
  ∃ v : TV, e = .returned (.tuple #[.agg #[.int .i64 v.op, .int .i64 v.n, .int .u8 v.pc, .slice v.A v.k v.c], .int .i64 (parseE s)]) ∧ TreeAt w' 0 w'.heap.size 20 (parseT s) v ∧ Below w.heap.size w w'
theorem leaf0_at (w : World) (B : Nat) : TreeAt w 0 B 20 leaf0 ⟨0, 0, 0, none, 0, 0⟩ := TreeAt.leaf 0 0 0
set_option maxRecDepth 100000 in
set_option maxHeartbeats 4000000 in
theorem parse_any (s : ByteArray) (w : World) : Calls Tryd.prog 38 #[.string s] w fun e w' => ParsePost s w e w' := by
  by_cases hl : 2000 < s.size
  · have HE := hide (parse_long hl)
    have f1 : (2000 : Int) < (s.size : Int) := by omega
    clear hl
    have hr := Blk.new w 60 #[.int .i64 0, .int .i64 0, .int .u8 0, .slice none 0 0]
    have hB := (Below.refl w.heap.size w).alloc (Nat.le_refl _) (.cells #[.int .i64 0, .int .i64 0, .int .u8 0, .slice none 0 0] 60)
    go_enter Tryd.func38, Tryd.ntmps38
    go_upto_region 1 with fail
    generalize w.alloc (.cells #[.int .i64 0, .int .i64 0, .int .u8 0, .slice none 0 0] 60) = W at *
    go_wp2_with (refine wpList_store_blk rfl 60 _ _ rfl #[.int .i64 0, .int .i64 0, .int .u8 0, .slice none 0 0] hr rfl rfl (by kernel_rfl) rfl (by simp [Value.oneCell']) ?_; intro W3 hr3 hc3; have r0 := hr3.cell_ 0 rfl; have r1 := hr3.cell_ 1 rfl; have r2 := hr3.cell_ 2 rfl; have r3 := hr3.cell_ 3 rfl)
    refine bodyPost_ret (v := .tuple #[.agg #[.int .i64 0, .int .i64 0, .int .u8 0, .slice none 0 0], .int .i64 43]) (by simp [results, Tryd.results38, go_sem, r0, r1, r2, r3]) rfl ⟨⟨0, 0, 0, none, 0, 0⟩, by rw [HE.out.1], by rw [HE.out.2]; exact leaf0_at _ _, hB.trans (hc3.below1 hB.size (Nat.le_refl _))⟩
  · have f1 : ¬ (2000 : Int) < (s.size : Int) := by omega
    have HL := hide hl
    have hs : Hid (s.size ≤ 1000000) := by show _ ≤ _; omega
    clear hl
    have hr := (Blk.new w 60 #[.int .i64 0, .int .i64 0, .int .u8 0, .slice none 0 0]).alloc (.cells #[.string s, .bool false] 103)
    have hk := Blk.new (w.alloc (.cells #[.int .i64 0, .int .i64 0, .int .u8 0, .slice none 0 0] 60)) 103 #[.string s, .bool false]
    have hB := ((Below.refl w.heap.size w).alloc (Nat.le_refl _) (.cells #[.int .i64 0, .int .i64 0, .int .u8 0, .slice none 0 0] 60)).alloc (by simp) (.cells #[.string s, .bool false] 103)
    rw [show (w.alloc (.cells #[.int .i64 0, .int .i64 0, .int .u8 0, .slice none 0 0] 60)).heap.size = w.heap.size + 1 by simp] at hk
    go_enter Tryd.func38, Tryd.ntmps38
    go_upto_region 4 with fail
    generalize (w.alloc (.cells #[.int .i64 0, .int .i64 0, .int .u8 0, .slice none 0 0] 60)).alloc (.cells #[.string s, .bool false] 103) = W at *
    go_wp2_with fail
    refine (cut_all (s.size + 1) (w.heap.size + 1) s false W (Nat.lt_succ_self _) hs.out hk).mono ?_
    rintro e W2 ⟨⟨op, n, pc, A, k, c⟩, s2, b2, rfl, hk2, hc2, H2⟩
    dsimp only
    replace H2 := hide H2
    replace hr := hr.chg1 hc2 (by omega)
    replace hB := hB.trans (hc2.below1 hB.size (by omega))
    have lW : w.heap.size + 1 < W.heap.size ∧ W.heap.size ≤ W2.heap.size := ⟨hk.lt, hc2.size⟩
    clear hk hc2
    have hm := Blk.new W2 60 #[.int .i64 op, .int .i64 n, .int .u8 pc, .slice A k c]
    have hk := hk2.alloc (.cells #[.int .i64 op, .int .i64 n, .int .u8 pc, .slice A k c] 60)
    replace hr := hr.alloc (.cells #[.int .i64 op, .int .i64 n, .int .u8 pc, .slice A k c] 60)
    have hb2 := (Below.refl W2.heap.size W2).alloc (Nat.le_refl _) (.cells #[.int .i64 op, .int .i64 n, .int .u8 pc, .slice A k c] 60)
    replace hB := hB.trans (hb2.mono hB.size)
    have hKt := (Keeps.refl W.heap.size W2.heap.size W2).below hb2 (Nat.le_refl _)
    clear hk2 hb2
    go_upto_region 5 with fail
    generalize W2.alloc (.cells #[.int .i64 op, .int .i64 n, .int .u8 pc, .slice A k c] 60) = W3 at *
    have q0 := hk.cell_ 0 (v := .string s2) rfl
    have q1 := hk.cell_ 1 (v := .bool b2) rfl
    cases b2 with
    | true =>
      have HE := hide (parse_form HL.out (parsed_none ((H2.out.no rfl).resolve_left (by decide))))
      clear H2
      go_upto_region 6 with fail
      clear q0 q1 hk hm hKt
      go_wp2_with (refine wpList_store_blk rfl 60 _ _ rfl #[.int .i64 0, .int .i64 0, .int .u8 0, .slice none 0 0] hr rfl rfl (by kernel_rfl) rfl (by simp [Value.oneCell']) ?_; intro W3 hr3 hc3; have r0 := hr3.cell_ 0 rfl; have r1 := hr3.cell_ 1 rfl; have r2 := hr3.cell_ 2 rfl; have r3 := hr3.cell_ 3 rfl)
      refine bodyPost_ret (v := .tuple #[.agg #[.int .i64 0, .int .i64 0, .int .u8 0, .slice none 0 0], .int .i64 4]) (by simp [results, Tryd.results38, go_sem, r0, r1, r2, r3]) rfl ⟨⟨0, 0, 0, none, 0, 0⟩, by rw [HE.out.1], by rw [HE.out.2]; exact leaf0_at _ _, hB.trans (hc3.below1 hB.size (Nat.le_refl _))⟩
    | false =>
      obtain ⟨_, t, ht, hT⟩ := H2.out.ok rfl
      by_cases h0 : s2.size = 0
      · have f0 : s2.toList.isEmpty = true := by rw [str_empty, decide_eq_true h0]
        have hn : byt s2 = [] := List.eq_nil_of_length_eq_zero (by rw [byt_len]; exact h0)
        rw [hn] at ht
        have hp := parsed_of ht
        obtain ⟨_, hR, hh⟩ := parsed_some hp
        have hT3 := hKt.tree (L' := W.heap.size) (Nat.le_refl _) (Nat.le_refl _) hT
        obtain ⟨L0, hL0⟩ : ∃ L0, W.heap.size = L0 := ⟨_, rfl⟩
        have lL : w.heap.size < L0 := by omega
        rw [hL0] at hT3
        clear hL0
        have hd : dpT (s.size + 1) t = htT t := dp_ht hR (by omega)
        have HP := hide hp
        have HR := hide hR
        obtain ⟨m, hm2⟩ : ∃ m, htT t = m := ⟨_, rfl⟩
        rw [hm2] at hd
        have HM := hide hm2
        have HD := hide hd
        have HHs : Hid (s.size + 1 ≤ 1000000) := by show _ ≤ _; have := HL.out; omega
        clear h0 hn ht hp hR hh hT hm2 hd H2 hKt
        have m0 := hm.cell_ 0 rfl
        have m1 := hm.cell_ 1 rfl
        have m2 := hm.cell_ 2 rfl
        have m3 := hm.cell_ 3 rfl
        go_upto_region 7 with fail
        clear q0 q1 hk
        go_wp2_with fail
        refine ((deep_all (s.size + 1) HHs.out).is hT3 HD.out).mono ?_
        rintro e W ⟨rfl, hb⟩
        clear m0 m1 m2 m3
        replace hm := hm.below hb hm.lt
        replace hr := Blk.below hr hb hr.lt
        replace hT3 := TreeAt.on hT3 hb
        replace hB := hB.trans (hb.mono hB.size)
        clear hb
        have m0 := hm.cell_ 0 rfl
        have m1 := hm.cell_ 1 rfl
        have m2 := hm.cell_ 2 rfl
        have m3 := hm.cell_ 3 rfl
        by_cases h20 : 20 < m
        · have f2 : (20 : Int) < (m : Int) := by omega
          have HE := hide (parse_deep HL.out HP.out (by rw [HM.out]; exact h20))
          clear hT3
          go_wp2_with (refine wpList_store_blk rfl 60 _ _ rfl #[.int .i64 0, .int .i64 0, .int .u8 0, .slice none 0 0] hr rfl rfl (by kernel_rfl) rfl (by simp [Value.oneCell']) ?_; intro W3 hr3 hc3; have r0 := hr3.cell_ 0 rfl; have r1 := hr3.cell_ 1 rfl; have r2 := hr3.cell_ 2 rfl; have r3 := hr3.cell_ 3 rfl)
          refine bodyPost_ret (v := .tuple #[.agg #[.int .i64 0, .int .i64 0, .int .u8 0, .slice none 0 0], .int .i64 43]) (by simp [results, Tryd.results38, go_sem, r0, r1, r2, r3]) rfl ⟨⟨0, 0, 0, none, 0, 0⟩, by rw [HE.out.1], by rw [HE.out.2]; exact leaf0_at _ _, hB.trans (hc3.below1 hB.size (Nat.le_refl _))⟩
        · have f2 : ¬ (20 : Int) < (m : Int) := by omega
          have HE := hide (parse_ok HL.out HP.out (by rw [HM.out]; exact h20))
          have HT := hide (hT3.cut_ ((sh_ht HR.out (f := 20)).2 (by rw [HM.out]; omega)))
          clear hT3
          go_wp2_with (refine wpList_store_blk rfl 60 _ _ rfl #[.int .i64 op, .int .i64 n, .int .u8 pc, .slice A k c] hr rfl rfl (by kernel_rfl) rfl (by simp [Value.oneCell']) ?_; intro W5 hr3 hc3; have r0 := hr3.cell_ 0 rfl; have r1 := hr3.cell_ 1 rfl; have r2 := hr3.cell_ 2 rfl; have r3 := hr3.cell_ 3 rfl)
          have hT5 := ((Keeps.refl L0 W.heap.size W).chg1 hc3 (Nat.le_refl _) (.inl lL)).tree (L' := 0) (Nat.le_refl _) (Nat.zero_le _) HT.out
          exact bodyPost_ret (v := .tuple #[.agg #[.int .i64 op, .int .i64 n, .int .u8 pc, .slice A k c], .int .i64 0]) (by simp [results, Tryd.results38, go_sem, r0, r1, r2, r3]) rfl ⟨⟨op, n, pc, A, k, c⟩, by rw [HE.out.1], by rw [HE.out.2]; exact hT5, hB.trans (hc3.below1 hB.size (Nat.le_refl _))⟩
      · have f0 : s2.toList.isEmpty = false := by rw [str_empty, decide_eq_false h0]
        have HE := hide (parse_form HL.out (parsed_rest ht (fun h => h0 (by rw [← byt_len, h]; rfl))))
        clear H2 ht hT
        go_upto_region 6 with fail
        clear q0 q1 hk hm hKt
        go_wp2_with (refine wpList_store_blk rfl 60 _ _ rfl #[.int .i64 0, .int .i64 0, .int .u8 0, .slice none 0 0] hr rfl rfl (by kernel_rfl) rfl (by simp [Value.oneCell']) ?_; intro W3 hr3 hc3; have r0 := hr3.cell_ 0 rfl; have r1 := hr3.cell_ 1 rfl; have r2 := hr3.cell_ 2 rfl; have r3 := hr3.cell_ 3 rfl)
        refine bodyPost_ret (v := .tuple #[.agg #[.int .i64 0, .int .i64 0, .int .u8 0, .slice none 0 0], .int .i64 4]) (by simp [results, Tryd.results38, go_sem, r0, r1, r2, r3]) rfl ⟨⟨0, 0, 0, none, 0, 0⟩, by rw [HE.out.1], by rw [HE.out.2]; exact leaf0_at _ _, hB.trans (hc3.below1 hB.size (Nat.le_refl _))⟩
end Go.Proofs.YtecaaimaeaocbaaDoor
