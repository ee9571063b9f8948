/- The document's reader: cut. -/
import Derived.Test.YtecaaimaeaocbaaDoorKRNum
import Derived.Test.YtecaaimaeaocbaaDoorKCut
namespace Go.Proofs.YtecaaimaeaocbaaDoor
open Go Go.RowKit
theorem Keeps.chgS {S : Nat → Prop} {L B : Nat} {w a b : World} (h : Keeps L B w a) (hc : Chg S a b) (hB : B ≤ w.heap.size) (hS : ∀ k, S k → k < L ∨ B ≤ k) : Keeps L B w b :=
  ⟨Nat.le_trans h.1 hc.size, fun k h1 h2 => (hc.block k (by have := h.1; omega) (fun hk => by have := hS k hk; omega)).trans (h.2 k h1 h2)⟩
/-- a word of the reader, as a step -/
theorem rword_r (g : Nat) (s p : ByteArray) (i : Nat) (bad : Bool) (w : World) (hi : i ≤ s.size) (hs : s.size ≤ 1000000) (hp : p.size ≤ 100) (hk : Blk w g 108 #[.string s, .int .i64 i, .bool bad]) :
    Calls Tryd.prog 97 #[.pointer (some ⟨g, 0, none⟩), .string p] w fun e w' => ∃ (i' : Nat) (bad' : Bool), e = .returned (.tuple #[]) ∧ i' ≤ s.size ∧ Blk w' g 108 #[.string s, .int .i64 i', .bool bad'] ∧ Chg (fun k => k = g) w w' ∧ WordR (byt p) ((byt s).drop i) bad ((byt s).drop i') bad' := by
  refine (rword_any g s p i bad w hi hs hp hk).mono ?_
  rintro e w' ⟨rfl, h1, h2⟩
  have h3 := rword_is s p i
  cases hb : (!bad && atB s p i) with
  | true =>
    rw [hb, if_pos rfl] at h1
    simp only [Bool.and_eq_true, Bool.not_eq_true'] at hb
    rw [hb.2, if_pos rfl] at h3
    have hle : i + p.size ≤ s.size := by
      have := hb.2
      unfold atB at this
      simp only [Bool.and_eq_true, decide_eq_true_eq] at this
      omega
    refine ⟨i + p.size, false, rfl, hle, h1, h2, ?_, fun _ => ⟨hb.1, (), ?_, trivial⟩, fun h => (by cases h)⟩
    · rw [List.length_drop, List.length_drop]; omega
    · unfold wordF; rw [h3]; rfl
  | false =>
    rw [hb, if_neg (by simp)] at h1
    refine ⟨i, true, rfl, hi, h1, h2, Nat.le_refl _, fun h => (by cases h), fun _ => ?_⟩
    cases bad with
    | true => exact .inl rfl
    | false =>
      right
      simp only [Bool.not_false, Bool.true_and] at hb
      rw [hb, if_neg (by simp)] at h3
      unfold wordF; rw [h3]; rfl
theorem rcut_is (s : ByteArray) (i : Nat) (h : i < s.size) : ∃ c : UInt8, (byt s).drop i = c :: (byt s).drop (i + 1) ∧ c.toNat = bat s i ∧ isCut c ((byt s).drop (i + 1)) = ((decide (bat s i = 104) || decide (bat s i = 118)) && (decide (i + 1 < s.size) && decide (bat s (i + 1) = 32))) := by
  have hl : (byt s).length = s.size := byt_len s
  refine ⟨(byt s)[i]'(by omega), ?_, ?_, ?_⟩
  · rw [List.drop_eq_getElem_cons (by omega)]
  · unfold bat
    rw [List.getD_eq_getElem?_getD, List.getElem?_eq_getElem (by omega)]; rfl
  · have e0 : bat s i = ((byt s)[i]'(by omega)).toNat := by
      unfold bat
      rw [List.getD_eq_getElem?_getD, List.getElem?_eq_getElem (by omega)]; rfl
    have k1 : ∀ (a b : UInt8), (a == b) = decide (a.toNat = b.toNat) := fun a b => by
      rw [Bool.eq_iff_iff, beq_iff_eq, decide_eq_true_eq]
      exact ⟨fun h => by rw [h], fun h => UInt8.toNat_inj.1 h⟩
    unfold isCut
    rw [k1, k1, e0]
    have h104 : (104 : UInt8).toNat = 104 := rfl
    have h118 : (118 : UInt8).toNat = 118 := rfl
    rw [h104, h118]
    congr 1
    by_cases h2 : i + 1 < s.size
    · have e1 : (byt s).drop (i + 1) = (byt s)[i + 1]'(by omega) :: (byt s).drop (i + 2) := List.drop_eq_getElem_cons (by omega)
      have e2 : bat s (i + 1) = ((byt s)[i + 1]'(by omega)).toNat := by
        unfold bat
        rw [List.getD_eq_getElem?_getD, List.getElem?_eq_getElem (by omega)]; rfl
      rw [e1, e2, List.head?_cons, decide_eq_true h2, Bool.true_and, Bool.eq_iff_iff, beq_iff_eq, decide_eq_true_eq]
      constructor
      · intro h; injection h with h; rw [h]; rfl
      · intro h; congr 1; exact UInt8.toNat_inj.1 h
    · have e1 : (byt s).drop (i + 1) = [] := List.drop_eq_nil_of_le (by omega)
      rw [e1, decide_eq_false h2]; rfl
def RCutPost (f g d : Nat) (F : Bs → Option (Tree × Bs)) (s : ByteArray) (i : Nat) (bad : Bool) (lev dv : Nat) (w : World) (e : Ending) (w' : World) : Prop :=
  ∃ (v : TV) (i' : Nat) (bad' : Bool) (dv' : Nat), e = .returned (.agg #[.int .i64 v.op, .int .i64 v.n, .int .u8 v.pc, .slice v.A v.k v.c]) ∧ i' ≤ s.size ∧ Blk w' g 108 #[.string s, .int .i64 i', .bool bad'] ∧ Blk w' d 3 #[.int .i64 dv'] ∧ Chg (fun k => k = g ∨ k = d) w w' ∧ dv' ≤ 2000000 ∧
    StepR F (fun t => TreeAt w' w.heap.size w'.heap.size f t v ∧ dv' = max dv (lev + htT t - 1)) ((byt s).drop i) bad ((byt s).drop i') bad'
def RCutAt (f : Nat) : Prop := ∀ (g d : Nat) (s : ByteArray) (i : Nat) (bad : Bool) (lev dv : Nat) (w : World), s.size - i < f → i ≤ s.size → s.size ≤ 1000000 → 1 ≤ lev → lev + f ≤ 2000000 → dv ≤ 2000000 → g ≠ d → Blk w g 108 #[.string s, .int .i64 i, .bool bad] → Blk w d 3 #[.int .i64 dv] →
  Calls Tryd.prog 76 #[.pointer (some ⟨g, 0, none⟩), .int .i64 lev, .pointer (some ⟨d, 0, none⟩)] w fun e w' => RCutPost f g d (cutT f) s i bad lev dv w e w'
/-- g and d turn, and what is new since w -/
abbrev ChgD (g d : Nat) (w w' : World) : Prop := Chg (fun i => (i = g ∨ i = d) ∨ w.heap.size ≤ i) w w'
theorem ChgD.step {g d : Nat} {S : Nat → Prop} {w a w' : World} (h : ChgD g d w a) (hc : Chg S a w') (hb : ∀ k, S k → (k = g ∨ k = d) ∨ w.heap.size ≤ k) : ChgD g d w w' := h.trans (hc.mono fun k _ hk => hb k hk)
theorem ChgD.below {g d : Nat} {w a w' : World} (h : ChgD g d w a) (hb : Below a.heap.size a w') : ChgD g d w w' := h.trans (Chg.of_below hb)
theorem chg_farD {g d : Nat} {w w' : World} (hc : ChgD g d w w') : Chg (fun i => i = g ∨ i = d) w w' := ⟨hc.os, hc.tape, hc.output, hc.size, fun k hk hn => hc.block k hk fun h => by
    rcases h with h | h
    · exact hn h
    · omega⟩
set_option maxRecDepth 100000 in
set_option maxHeartbeats 8000000 in
theorem rcut_step (f : Nat) (H : RCutAt f) : RCutAt (f + 1) := by
  intro g d s i bad lev dv w hf hi hs hl1 hl2 hdv hgd hk hd
  have hgl := hk.lt
  have hdl := hd.lt
  have HS := hide hs
  have HF := hide hf
  have HH := hide H
  clear hs hf H
  obtain ⟨m1, hm1e⟩ : ∃ m, max dv lev = m := ⟨_, rfl⟩
  have hm1 : m1 ≤ 2000000 := by omega
  have e0 : max (dv : Int) (lev : Int) = (m1 : Int) := by omega
  have HM1 := hide hm1e
  clear hm1e
  have hr := Blk.new w 60 #[.int .i64 0, .int .i64 0, .int .u8 0, .slice none 0 0]
  replace hk := hk.alloc (.cells #[.int .i64 0, .int .i64 0, .int .u8 0, .slice none 0 0] 60)
  replace hd := hd.alloc (.cells #[.int .i64 0, .int .i64 0, .int .u8 0, .slice none 0 0] 60)
  have hC : ChgD g d w _ := Chg.alloc (Chg.refl _ w) (.cells #[.int .i64 0, .int .i64 0, .int .u8 0, .slice none 0 0] 60)
  go_enter Tryd.func76, Tryd.ntmps76
  go_upto_region 1 with fail
  generalize w.alloc (.cells #[.int .i64 0, .int .i64 0, .int .u8 0, .slice none 0 0] 60) = W at *
  have e_0 := hd.cell_ 0 (v := .int .i64 dv) rfl
  go_upto_region 2 with (refine wpList_store_at rfl 3 _ _ rfl (.int .i64 m1) hd rfl rfl (by kernel_rfl) rfl (by simp) rfl ?_; intro W2 hd2 hc2)
  replace hr := hr.chg1 hc2 (by omega)
  replace hC := hC.step hc2 (fun k h => by omega)
  replace hk := hk.chg1 hc2 (by omega)
  clear e_0 hd hc2
  have hd := hd2
  clear hd2
  obtain ⟨W, rfl⟩ : ∃ W : World, W = W2 := ⟨_, rfl⟩
  replace hd : Blk W d 3 #[.int .i64 m1] := hd
  try dsimp only [Act.put]
  have q0 := hk.cell_ 0 rfl
  have q1 := hk.cell_ 1 rfl
  have q2 := hk.cell_ 2 rfl
  cases bad with
  | true =>
    go_wp2_with fail
    refine wp_region_quiet (C := fun w' => ∃ u : Since W, w' = u.w) (by kernel_rfl) (by kernel_rfl) (Since.start W) ?_
    dsimp only
    have y_q0 := Since.cell q0
    have y_q1 := Since.cell q1
    have y_q2 := Since.cell q2
    clear q0 q1 q2
    repeat (go_big_quiet_step ((fail)))
    refine wpQuiet_nil ?_
    rintro W ⟨⟨_, hb⟩, rfl⟩
    try dsimp only at hb ⊢
    clear y_q0 y_q1 y_q2
    replace hk := hk.below hb hk.lt
    replace hd := hd.below hb hd.lt
    replace hr := Blk.below hr hb hr.lt
    replace hC := ChgD.below hC hb
    clear hb
    have q0 := hk.cell_ 0 rfl
    have q1 := hk.cell_ 1 rfl
    have q2 := hk.cell_ 2 rfl
    go_upto_region 4 with (refine wpList_store_at rfl 4 _ _ rfl (.bool true) hk rfl rfl (by kernel_rfl) rfl (by simp) rfl ?_; intro W2 hk2 hc2)
    replace hr := hr.chg1 hc2 (by omega)
    replace hC := hC.step hc2 (fun k h => by omega)
    replace hd := hd.chg1 hc2 (by omega)
    clear hk hc2
    have hk := hk2
    clear hk2
    clear q0 q1 q2
    go_wp2_with (refine wpList_store_blk rfl 60 _ _ rfl #[.int .i64 0, .int .i64 0, .int .u8 0, .slice none 0 0] hr rfl rfl (by kernel_rfl) rfl (by simp [Value.oneCell']) ?_; intro W3 hr3 hc3; have r0 := hr3.cell_ 0 rfl; have r1 := hr3.cell_ 1 rfl; have r2 := hr3.cell_ 2 rfl; have r3 := hr3.cell_ 3 rfl)
    replace hk := hk.chg1 hc3 (by omega)
    replace hd := hd.chg1 hc3 (by omega)
    replace hC := hC.step hc3 (fun k h => by omega)
    refine bodyPost_ret (v := .agg #[.int .i64 0, .int .i64 0, .int .u8 0, .slice none 0 0]) (by simp [results, Tryd.results76, go_sem, r0, r1, r2, r3]) rfl ⟨⟨0, 0, 0, none, 0, 0⟩, i, _, m1, rfl, hi, hk, hd, chg_farD hC, hm1, ?_⟩
    exact ⟨Nat.le_refl _, fun h => (by cases h), fun _ => .inl rfl⟩
  | false =>
    by_cases hlt : i < s.size
    · have c1 : decide ((s.size : Int) ≤ (i : Int)) = false := decide_eq_false (by omega)
      have c1' : ¬ (s.size : Int) ≤ (i : Int) := by omega
      obtain ⟨c, E1, E2, E3⟩ := rcut_is s i hlt
      have hix := ix_byte s i hlt
      obtain ⟨x, hx⟩ : ∃ x, bat s i = x := ⟨_, rfl⟩
      rw [hx] at E2 E3 hix
      obtain ⟨j, hj⟩ : ∃ j, i + 1 = j := ⟨_, rfl⟩
      rw [hj] at E1 E3
      have hji : j ≤ s.size := by omega
      have e1 : IntKind.i64.wrap ((i : Int) + 1) = (j : Int) := by rw [IntWalk.i64_in _ (by have := HS.out; omega)]; omega
      have HJ := hide hj
      clear hj
      have HX := hide E2
      have HE1 := hide E1
      obtain ⟨th, hth⟩ : ∃ th, isCut c ((byt s).drop j) = th := ⟨_, rfl⟩
      have HTH := hide hth
      rw [hth] at E3
      have HT3 := hide E3
      clear E1 E2 E3 hx hth
      go_wp2_with fail
      refine wp_region_quiet (C := fun w' => ∃ u : Since W, w' = u.w) (by kernel_rfl) (by kernel_rfl) (Since.start W) ?_
      dsimp only
      have y_q0 := Since.cell q0
      have y_q1 := Since.cell q1
      have y_q2 := Since.cell q2
      clear q0 q1 q2
      repeat (go_big_quiet_step ((fail)))
      refine wpQuiet_nil ?_
      rintro W ⟨⟨_, hb⟩, rfl⟩
      try dsimp only at hb ⊢
      clear y_q0 y_q1 y_q2
      replace hk := hk.below hb hk.lt
      replace hd := hd.below hb hd.lt
      replace hr := Blk.below hr hb hr.lt
      replace hC := ChgD.below hC hb
      clear hb
      have q0 := hk.cell_ 0 rfl
      have q1 := hk.cell_ 1 rfl
      have q2 := hk.cell_ 2 rfl
      go_wp2_with fail
      refine wp_region_quiet (C := fun w' => ∃ u : Since W, w' = u.w) (by kernel_rfl) (by kernel_rfl) (Since.start W) ?_
      dsimp only
      have y_q0 := Since.cell q0
      have y_q1 := Since.cell q1
      have y_q2 := Since.cell q2
      clear q0 q1 q2
      repeat (go_big_quiet_step ((fail)))
      refine wpQuiet_nil ?_
      rintro W ⟨⟨_, hb⟩, rfl⟩
      try dsimp only at hb ⊢
      clear y_q0 y_q1 y_q2
      replace hk := hk.below hb hk.lt
      replace hd := hd.below hb hd.lt
      replace hr := Blk.below hr hb hr.lt
      replace hC := ChgD.below hC hb
      clear hb
      have q0 := hk.cell_ 0 rfl
      have q1 := hk.cell_ 1 rfl
      have q2 := hk.cell_ 2 rfl
      go_upto_region 6 with fail
      clear q0 q1 q2
      go_cut [8] (fun y wx => y = .bool th ∧ Blk wx g 108 #[.string s, .int .i64 i, .bool false] ∧ Blk wx d 3 #[.int .i64 m1] ∧ Blk wx w.heap.size 60 #[.int .i64 0, .int .i64 0, .int .u8 0, .slice none 0 0] ∧ ChgD g d w wx)
      case first =>
        have HO1 : True := trivial
        by_cases x104 : x = 104
        · have f1 : ((x : Int) == 104) = true := by simp [x104]
          have HO : Hid ((decide (x = 104) || decide (x = 118)) = true) := by show _ = _; rw [decide_eq_true x104]; rfl
          clear x104
          by_cases h2 : j < s.size
          · have c2 : decide ((j : Int) < (s.size : Int)) = true := decide_eq_true (by omega)
            have c2' : (j : Int) < (s.size : Int) := by omega
            have hix2 := ix_byte s j h2
            obtain ⟨y, hy⟩ : ∃ y, bat s j = y := ⟨_, rfl⟩
            rw [hy] at hix2
            by_cases y32 : y = 32
            · have f3 : ((y : Int) == 32) = true := by simp [y32]
              have HV : Hid (th = true) := by show _ = _; rw [HT3.out, hy, decide_eq_true h2, decide_eq_true y32, HO.out]; rfl
              clear y32 hy h2
              have q0 := hk.cell_ 0 rfl
              have q1 := hk.cell_ 1 rfl
              have q2 := hk.cell_ 2 rfl
              go_wp2_with fail
              refine wp_region_quiet (C := fun w' => ∃ u : Since W, w' = u.w) (by kernel_rfl) (by kernel_rfl) (Since.start W) ?_
              dsimp only
              have y_q0 := Since.cell q0
              have y_q1 := Since.cell q1
              have y_q2 := Since.cell q2
              clear q0 q1 q2
              repeat (go_big_quiet_step ((fail)))
              refine wpQuiet_nil ?_
              rintro W ⟨⟨_, hb⟩, rfl⟩
              try dsimp only at hb ⊢
              clear y_q0 y_q1 y_q2
              replace hk := hk.below hb hk.lt
              replace hd := hd.below hb hd.lt
              replace hr := Blk.below hr hb hr.lt
              replace hC := ChgD.below hC hb
              clear hb
              have q0 := hk.cell_ 0 rfl
              have q1 := hk.cell_ 1 rfl
              have q2 := hk.cell_ 2 rfl
              go_wp2_with fail
              go_meet
              exact ⟨by rw [HV.out], hk, hd, hr, hC⟩
            · have f3 : ((y : Int) == 32) = false := by simp; omega
              have HV : Hid (th = false) := by show _ = _; rw [HT3.out, hy, decide_eq_false y32, Bool.and_false, Bool.and_false]
              clear y32 hy h2
              have q0 := hk.cell_ 0 rfl
              have q1 := hk.cell_ 1 rfl
              have q2 := hk.cell_ 2 rfl
              go_wp2_with fail
              refine wp_region_quiet (C := fun w' => ∃ u : Since W, w' = u.w) (by kernel_rfl) (by kernel_rfl) (Since.start W) ?_
              dsimp only
              have y_q0 := Since.cell q0
              have y_q1 := Since.cell q1
              have y_q2 := Since.cell q2
              clear q0 q1 q2
              repeat (go_big_quiet_step ((fail)))
              refine wpQuiet_nil ?_
              rintro W ⟨⟨_, hb⟩, rfl⟩
              try dsimp only at hb ⊢
              clear y_q0 y_q1 y_q2
              replace hk := hk.below hb hk.lt
              replace hd := hd.below hb hd.lt
              replace hr := Blk.below hr hb hr.lt
              replace hC := ChgD.below hC hb
              clear hb
              have q0 := hk.cell_ 0 rfl
              have q1 := hk.cell_ 1 rfl
              have q2 := hk.cell_ 2 rfl
              go_wp2_with fail
              go_meet
              exact ⟨by rw [HV.out], hk, hd, hr, hC⟩
          · have c2 : decide ((j : Int) < (s.size : Int)) = false := decide_eq_false (by omega)
            have c2n : decide (j < s.size) = false := decide_eq_false h2
            have c2' : ¬ (j : Int) < (s.size : Int) := by omega
            have HV : Hid (th = false) := by show _ = _; rw [HT3.out, decide_eq_false h2, Bool.false_and, Bool.and_false]
            clear h2
            have q0 := hk.cell_ 0 rfl
            have q1 := hk.cell_ 1 rfl
            have q2 := hk.cell_ 2 rfl
            go_wp2_with fail
            refine wp_region_quiet (C := fun w' => ∃ u : Since W, w' = u.w) (by kernel_rfl) (by kernel_rfl) (Since.start W) ?_
            dsimp only
            have y_q0 := Since.cell q0
            have y_q1 := Since.cell q1
            have y_q2 := Since.cell q2
            clear q0 q1 q2
            repeat (go_big_quiet_step ((fail)))
            refine wpQuiet_nil ?_
            rintro W ⟨⟨_, hb⟩, rfl⟩
            try dsimp only at hb ⊢
            clear y_q0 y_q1 y_q2
            replace hk := hk.below hb hk.lt
            replace hd := hd.below hb hd.lt
            replace hr := Blk.below hr hb hr.lt
            replace hC := ChgD.below hC hb
            clear hb
            have q0 := hk.cell_ 0 rfl
            have q1 := hk.cell_ 1 rfl
            have q2 := hk.cell_ 2 rfl
            go_wp2_with fail
            go_meet
            exact ⟨by rw [HV.out], hk, hd, hr, hC⟩
        · have f1 : ((x : Int) == 104) = false := by simp; omega
          by_cases x118 : x = 118
          · have f2 : ((x : Int) == 118) = true := by simp [x118]
            have HO : Hid ((decide (x = 104) || decide (x = 118)) = true) := by show _ = _; rw [decide_eq_true x118, Bool.or_true]
            clear x104 x118
            by_cases h2 : j < s.size
            · have c2 : decide ((j : Int) < (s.size : Int)) = true := decide_eq_true (by omega)
              have c2' : (j : Int) < (s.size : Int) := by omega
              have hix2 := ix_byte s j h2
              obtain ⟨y, hy⟩ : ∃ y, bat s j = y := ⟨_, rfl⟩
              rw [hy] at hix2
              by_cases y32 : y = 32
              · have f3 : ((y : Int) == 32) = true := by simp [y32]
                have HV : Hid (th = true) := by show _ = _; rw [HT3.out, hy, decide_eq_true h2, decide_eq_true y32, HO.out]; rfl
                clear y32 hy h2
                have q0 := hk.cell_ 0 rfl
                have q1 := hk.cell_ 1 rfl
                have q2 := hk.cell_ 2 rfl
                go_wp2_with fail
                refine wp_region_quiet (C := fun w' => ∃ u : Since W, w' = u.w) (by kernel_rfl) (by kernel_rfl) (Since.start W) ?_
                dsimp only
                have y_q0 := Since.cell q0
                have y_q1 := Since.cell q1
                have y_q2 := Since.cell q2
                clear q0 q1 q2
                repeat (go_big_quiet_step ((fail)))
                refine wpQuiet_nil ?_
                rintro W ⟨⟨_, hb⟩, rfl⟩
                try dsimp only at hb ⊢
                clear y_q0 y_q1 y_q2
                replace hk := hk.below hb hk.lt
                replace hd := hd.below hb hd.lt
                replace hr := Blk.below hr hb hr.lt
                replace hC := ChgD.below hC hb
                clear hb
                have q0 := hk.cell_ 0 rfl
                have q1 := hk.cell_ 1 rfl
                have q2 := hk.cell_ 2 rfl
                go_wp2_with fail
                go_meet
                exact ⟨by rw [HV.out], hk, hd, hr, hC⟩
              · have f3 : ((y : Int) == 32) = false := by simp; omega
                have HV : Hid (th = false) := by show _ = _; rw [HT3.out, hy, decide_eq_false y32, Bool.and_false, Bool.and_false]
                clear y32 hy h2
                have q0 := hk.cell_ 0 rfl
                have q1 := hk.cell_ 1 rfl
                have q2 := hk.cell_ 2 rfl
                go_wp2_with fail
                refine wp_region_quiet (C := fun w' => ∃ u : Since W, w' = u.w) (by kernel_rfl) (by kernel_rfl) (Since.start W) ?_
                dsimp only
                have y_q0 := Since.cell q0
                have y_q1 := Since.cell q1
                have y_q2 := Since.cell q2
                clear q0 q1 q2
                repeat (go_big_quiet_step ((fail)))
                refine wpQuiet_nil ?_
                rintro W ⟨⟨_, hb⟩, rfl⟩
                try dsimp only at hb ⊢
                clear y_q0 y_q1 y_q2
                replace hk := hk.below hb hk.lt
                replace hd := hd.below hb hd.lt
                replace hr := Blk.below hr hb hr.lt
                replace hC := ChgD.below hC hb
                clear hb
                have q0 := hk.cell_ 0 rfl
                have q1 := hk.cell_ 1 rfl
                have q2 := hk.cell_ 2 rfl
                go_wp2_with fail
                go_meet
                exact ⟨by rw [HV.out], hk, hd, hr, hC⟩
            · have c2 : decide ((j : Int) < (s.size : Int)) = false := decide_eq_false (by omega)
              have c2n : decide (j < s.size) = false := decide_eq_false h2
              have c2' : ¬ (j : Int) < (s.size : Int) := by omega
              have HV : Hid (th = false) := by show _ = _; rw [HT3.out, decide_eq_false h2, Bool.false_and, Bool.and_false]
              clear h2
              have q0 := hk.cell_ 0 rfl
              have q1 := hk.cell_ 1 rfl
              have q2 := hk.cell_ 2 rfl
              go_wp2_with fail
              refine wp_region_quiet (C := fun w' => ∃ u : Since W, w' = u.w) (by kernel_rfl) (by kernel_rfl) (Since.start W) ?_
              dsimp only
              have y_q0 := Since.cell q0
              have y_q1 := Since.cell q1
              have y_q2 := Since.cell q2
              clear q0 q1 q2
              repeat (go_big_quiet_step ((fail)))
              refine wpQuiet_nil ?_
              rintro W ⟨⟨_, hb⟩, rfl⟩
              try dsimp only at hb ⊢
              clear y_q0 y_q1 y_q2
              replace hk := hk.below hb hk.lt
              replace hd := hd.below hb hd.lt
              replace hr := Blk.below hr hb hr.lt
              replace hC := ChgD.below hC hb
              clear hb
              have q0 := hk.cell_ 0 rfl
              have q1 := hk.cell_ 1 rfl
              have q2 := hk.cell_ 2 rfl
              go_wp2_with fail
              go_meet
              exact ⟨by rw [HV.out], hk, hd, hr, hC⟩
          · have f2 : ((x : Int) == 118) = false := by simp; omega
            have HV : Hid (th = false) := by show _ = _; rw [HT3.out, decide_eq_false x104, decide_eq_false x118]; rfl
            clear x104 x118
            have q0 := hk.cell_ 0 rfl
            have q1 := hk.cell_ 1 rfl
            have q2 := hk.cell_ 2 rfl
            go_wp2_with fail
            refine wp_region_quiet (C := fun w' => ∃ u : Since W, w' = u.w) (by kernel_rfl) (by kernel_rfl) (Since.start W) ?_
            dsimp only
            have y_q0 := Since.cell q0
            have y_q1 := Since.cell q1
            have y_q2 := Since.cell q2
            clear q0 q1 q2
            repeat (go_big_quiet_step ((fail)))
            refine wpQuiet_nil ?_
            rintro W ⟨⟨_, hb⟩, rfl⟩
            try dsimp only at hb ⊢
            clear y_q0 y_q1 y_q2
            replace hk := hk.below hb hk.lt
            replace hd := hd.below hb hd.lt
            replace hr := Blk.below hr hb hr.lt
            replace hC := ChgD.below hC hb
            clear hb
            have q0 := hk.cell_ 0 rfl
            have q1 := hk.cell_ 1 rfl
            have q2 := hk.cell_ 2 rfl
            go_wp2_with fail
            go_meet
            exact ⟨by rw [HV.out], hk, hd, hr, hC⟩
      case rest =>
        clear hk hd hr hC
        obtain ⟨rfl, hk, hd, hr, hC⟩ := hcut
        obtain ⟨W, rfl⟩ : ∃ W : World, W = wc := ⟨_, rfl⟩
        have q0 := hk.cell_ 0 (v := .string s) rfl
        have q1 := hk.cell_ 1 (v := .int .i64 i) rfl
        go_upto_region 8 with (refine wpList_store_at rfl 3 _ _ rfl (.int .i64 j) hk rfl rfl (by kernel_rfl) rfl (by simp) rfl ?_; intro W2 hk2 hc2)
        replace hr := hr.chg1 hc2 (by omega)
        replace hC := hC.step hc2 (fun k h => by omega)
        replace hd := hd.chg1 hc2 (by omega)
        clear q0 q1 hk hc2
        have hk : Blk W2 g 108 #[.string s, .int .i64 j, .bool false] := hk2
        clear hk2
        have HLen : Hid (((byt s).drop j).length ≤ ((byt s).drop i).length) := by show _ ≤ _; rw [List.length_drop, List.length_drop]; have := HJ.out; omega
        cases th with
        | false =>
          have HL : Hid (cutT (f + 1) ((byt s).drop i) = if c = 95 then some (.node 0 0 0 [], (byt s).drop j) else if 97 ≤ x ∧ x ≤ 122 then some (.node 1 0 x [], (byt s).drop j) else none) := by
            show _ = _
            rw [HE1.out, cutT_leaf HTH.out, HX.out]
          have HMx : Hid (m1 = max dv (lev + htT (.node 0 0 0 []) - 1)) := by show _ = _; rw [← HM1.out]; simp [htT]
          by_cases x95 : x = 95
          · have f1 : ((x : Int) == 95) = true := by simp [x95]
            have HR : Hid (cutT (f + 1) ((byt s).drop i) = some (.node 0 0 0 [], (byt s).drop j)) := by
              show _ = _
              rw [HL.out, if_pos (UInt8.toNat_inj.1 (by rw [HX.out, x95]; rfl))]
            clear x95
            go_wp2_with (refine wpList_store_blk rfl 60 _ _ rfl #[.int .i64 0, .int .i64 0, .int .u8 0, .slice none 0 0] hr rfl rfl (by kernel_rfl) rfl (by simp [Value.oneCell']) ?_; intro W3 hr3 hc3; have r0 := hr3.cell_ 0 rfl; have r1 := hr3.cell_ 1 rfl; have r2 := hr3.cell_ 2 rfl; have r3 := hr3.cell_ 3 rfl)
            replace hk := hk.chg1 hc3 (by omega)
            replace hd := hd.chg1 hc3 (by omega)
            replace hC := hC.step hc3 (fun k h => by omega)
            refine bodyPost_ret (v := .agg #[.int .i64 0, .int .i64 0, .int .u8 0, .slice none 0 0]) (by simp [results, Tryd.results76, go_sem, r0, r1, r2, r3]) rfl ⟨⟨0, 0, 0, none, 0, 0⟩, j, _, m1, rfl, hji, hk, hd, chg_farD hC, hm1, ?_⟩
            exact ⟨HLen.out, fun _ => ⟨rfl, _, HR.out, TreeAt.leaf 0 0 0, HMx.out⟩, fun h => (by cases h)⟩
          · have f1 : ((x : Int) == 95) = false := by simp; omega
            have HC95 : Hid (¬ c = 95) := fun h => x95 (by rw [← HX.out, h]; rfl)
            clear x95
            by_cases x97 : 97 ≤ x
            · have f2 : (97 : Int) ≤ (x : Int) := by omega
              by_cases x122 : x ≤ 122
              · have f3 : (x : Int) ≤ 122 := by omega
                have HR : Hid (cutT (f + 1) ((byt s).drop i) = some (.node 1 0 x [], (byt s).drop j)) := by
                  show _ = _
                  rw [HL.out, if_neg HC95.out, if_pos ⟨x97, x122⟩]
                have HMy : Hid (m1 = max dv (lev + htT (.node 1 0 x []) - 1)) := by show _ = _; rw [← HM1.out]; simp [htT]
                clear x97 x122
                go_wp2_with (refine wpList_store_blk rfl 60 _ _ rfl #[.int .i64 1, .int .i64 0, .int .u8 x, .slice none 0 0] hr rfl rfl (by kernel_rfl) rfl (by simp [Value.oneCell']) ?_; intro W3 hr3 hc3; have r0 := hr3.cell_ 0 rfl; have r1 := hr3.cell_ 1 rfl; have r2 := hr3.cell_ 2 rfl; have r3 := hr3.cell_ 3 rfl)
                replace hk := hk.chg1 hc3 (by omega)
                replace hd := hd.chg1 hc3 (by omega)
                replace hC := hC.step hc3 (fun k h => by omega)
                refine bodyPost_ret (v := .agg #[.int .i64 1, .int .i64 0, .int .u8 x, .slice none 0 0]) (by simp [results, Tryd.results76, go_sem, r0, r1, r2, r3]) rfl ⟨⟨1, 0, x, none, 0, 0⟩, j, _, m1, rfl, hji, hk, hd, chg_farD hC, hm1, ?_⟩
                exact ⟨HLen.out, fun _ => ⟨rfl, _, HR.out, TreeAt.leaf 1 0 x, HMy.out⟩, fun h => (by cases h)⟩
              · have f3 : ¬ (x : Int) ≤ 122 := by omega
                have f3d : decide ((x : Int) ≤ 122) = false := decide_eq_false f3
                have HR : Hid (cutT (f + 1) ((byt s).drop i) = none) := by
                  show _ = _
                  rw [HL.out, if_neg HC95.out, if_neg (by omega)]
                clear x97 x122
                go_upto_region 14 with (refine wpList_store_at rfl 4 _ _ rfl (.bool true) hk rfl rfl (by kernel_rfl) rfl (by simp) rfl ?_; intro W2 hk2 hc2)
                replace hr := hr.chg1 hc2 (by omega)
                replace hC := hC.step hc2 (fun k h => by omega)
                replace hd := hd.chg1 hc2 (by omega)
                clear hk hc2
                have hk := hk2
                clear hk2
                go_wp2_with (refine wpList_store_blk rfl 60 _ _ rfl #[.int .i64 0, .int .i64 0, .int .u8 0, .slice none 0 0] hr rfl rfl (by kernel_rfl) rfl (by simp [Value.oneCell']) ?_; intro W3 hr3 hc3; have r0 := hr3.cell_ 0 rfl; have r1 := hr3.cell_ 1 rfl; have r2 := hr3.cell_ 2 rfl; have r3 := hr3.cell_ 3 rfl)
                replace hk := hk.chg1 hc3 (by omega)
                replace hd := hd.chg1 hc3 (by omega)
                replace hC := hC.step hc3 (fun k h => by omega)
                refine bodyPost_ret (v := .agg #[.int .i64 0, .int .i64 0, .int .u8 0, .slice none 0 0]) (by simp [results, Tryd.results76, go_sem, r0, r1, r2, r3]) rfl ⟨⟨0, 0, 0, none, 0, 0⟩, j, _, m1, rfl, hji, hk, hd, chg_farD hC, hm1, ?_⟩
                exact ⟨HLen.out, fun h => (by cases h), fun _ => .inr HR.out⟩
            · have f2 : ¬ (97 : Int) ≤ (x : Int) := by omega
              have f2d : decide ((97 : Int) ≤ (x : Int)) = false := decide_eq_false f2
              have HR : Hid (cutT (f + 1) ((byt s).drop i) = none) := by
                show _ = _
                rw [HL.out, if_neg HC95.out, if_neg (by omega)]
              clear x97
              go_upto_region 14 with (refine wpList_store_at rfl 4 _ _ rfl (.bool true) hk rfl rfl (by kernel_rfl) rfl (by simp) rfl ?_; intro W2 hk2 hc2)
              replace hr := hr.chg1 hc2 (by omega)
              replace hC := hC.step hc2 (fun k h => by omega)
              replace hd := hd.chg1 hc2 (by omega)
              clear hk hc2
              have hk := hk2
              clear hk2
              go_wp2_with (refine wpList_store_blk rfl 60 _ _ rfl #[.int .i64 0, .int .i64 0, .int .u8 0, .slice none 0 0] hr rfl rfl (by kernel_rfl) rfl (by simp [Value.oneCell']) ?_; intro W3 hr3 hc3; have r0 := hr3.cell_ 0 rfl; have r1 := hr3.cell_ 1 rfl; have r2 := hr3.cell_ 2 rfl; have r3 := hr3.cell_ 3 rfl)
              replace hk := hk.chg1 hc3 (by omega)
              replace hd := hd.chg1 hc3 (by omega)
              replace hC := hC.step hc3 (fun k h => by omega)
              refine bodyPost_ret (v := .agg #[.int .i64 0, .int .i64 0, .int .u8 0, .slice none 0 0]) (by simp [results, Tryd.results76, go_sem, r0, r1, r2, r3]) rfl ⟨⟨0, 0, 0, none, 0, 0⟩, j, _, m1, rfl, hji, hk, hd, chg_farD hC, hm1, ?_⟩
              exact ⟨HLen.out, fun h => (by cases h), fun _ => .inr HR.out⟩
        | true =>
          have HSW : Hid (cutT (f + 1) ((byt s).drop i) = sawnT f c ((byt s).drop j)) := by
            show _ = _
            rw [HE1.out, cutT_saw HTH.out]
          have f0 : ((x : Int) == 95) = false := by
            have h1 := HT3.out
            have h2 : (decide (x = 104) || decide (x = 118)) = true := by
              cases h3 : (decide (x = 104) || decide (x = 118)) with
              | true => rfl
              | false => rw [h3] at h1; cases h1
            simp only [Bool.or_eq_true, decide_eq_true_eq] at h2
            simp; omega
          have l2 : w.heap.size < W2.heap.size := hr.lt
          have ht := Blk.new W2 60 #[.int .i64 2, .int .i64 0, .int .u8 0, .slice none 0 0]
          have hb6 := (Below.refl W2.heap.size W2).alloc (Nat.le_refl _) (.cells #[.int .i64 2, .int .i64 0, .int .u8 0, .slice none 0 0] 60)
          replace hk := hk.alloc (.cells #[.int .i64 2, .int .i64 0, .int .u8 0, .slice none 0 0] 60)
          replace hd := hd.alloc (.cells #[.int .i64 2, .int .i64 0, .int .u8 0, .slice none 0 0] 60)
          replace hr := hr.alloc (.cells #[.int .i64 2, .int .i64 0, .int .u8 0, .slice none 0 0] 60)
          replace hC := hC.below hb6
          clear hb6
          go_upto_if 113 with fail
          generalize W2.alloc (.cells #[.int .i64 2, .int .i64 0, .int .u8 0, .slice none 0 0] 60) = W at *
          obtain ⟨op, hop⟩ : ∃ op : Int, (if c == 118 then 3 else 2) = op := ⟨_, rfl⟩
          have HOP := hide hop
          clear hop
          obtain ⟨tb, htb⟩ : ∃ tb, W2.heap.size = tb := ⟨_, rfl⟩
          rw [htb] at ht l2
          go_cut [] (fun wx => Blk wx g 108 #[.string s, .int .i64 j, .bool false] ∧ Blk wx d 3 #[.int .i64 m1] ∧ Blk wx w.heap.size 60 #[.int .i64 0, .int .i64 0, .int .u8 0, .slice none 0 0] ∧ Blk wx tb 60 #[.int .i64 op, .int .i64 0, .int .u8 0, .slice none 0 0] ∧ ChgD g d w wx)
          case first =>
            by_cases hc : x = 118
            · have f1 : ((x : Int) == 118) = true := by simp [hc]
              have hop3 : op = 3 := by rw [← HOP.out, s118 HX.out, decide_eq_true hc]; rfl
              clear hc
              go_wp2_with (refine wpList_store_at rfl 3 _ _ rfl (.int .i64 3) ht rfl rfl (by kernel_rfl) rfl (by simp) rfl ?_; intro W3 ht3 hc3)
              go_meet
              exact ⟨hk.chg1 hc3 (by omega), hd.chg1 hc3 (by omega), hr.chg1 hc3 (by omega), by rw [hop3]; exact ht3, hC.step hc3 (fun k h => by omega)⟩
            · have f1 : ((x : Int) == 118) = false := by simp; omega
              have hop3 : op = 2 := by rw [← HOP.out, s118 HX.out, decide_eq_false hc]; rfl
              clear hc
              go_wp2_with fail
              go_meet
              exact ⟨hk, hd, hr, by rw [hop3]; exact ht, hC⟩
          case rest =>
            clear hk hd hr ht hC
            obtain ⟨hk, hd, hr, ht, hC⟩ := hcut
            obtain ⟨l1, hl1e⟩ : ∃ l, lev + 1 = l := ⟨_, rfl⟩
            have e7 : IntKind.i64.wrap ((lev : Int) + 1) = (l1 : Int) := by rw [IntWalk.i64_in _ (by omega)]; omega
            have HL1 := hide hl1e
            have hl3 : 1 ≤ l1 ∧ l1 + f ≤ 2000000 := by omega
            clear hl1e
            go_wp2_with fail
            refine (rword_r g s ⟨#[32]⟩ j false _ hji HS.out (by decide) hk).mono ?_
            rintro e W2 ⟨i1, b1, rfl, hi1, hk2, hc2, H1⟩
            clear hk
            have hk := hk2
            clear hk2
            replace hd := hd.chg1 hc2 (by omega)
            replace hr := hr.chg1 hc2 (by omega)
            replace ht := ht.chg1 hc2 (by omega)
            replace hC := hC.step hc2 (fun k h => by omega)
            have z1 : Hid (s.size - i1 ≤ s.size - j) := by have := H1.len; rw [List.length_drop, List.length_drop, byt_len] at this; exact this
            replace H1 := hide H1
            clear hc2
            go_wp2_with fail
            refine (rnumber_gen g s i1 b1 _ _ hi1 HS.out hk (Chg.refl _ _)).mono ?_
            rintro e W2 ⟨v, i2, b2, rfl, hv, hi2, hk2, hc2, H2⟩
            clear hk
            have hk := hk2
            clear hk2
            replace hd := hd.chg1 hc2 (by omega)
            replace hr := hr.chg1 hc2 (by omega)
            replace ht := ht.chg1 hc2 (by omega)
            replace hC := hC.step hc2 (fun k h => by omega)
            have z2 : Hid (s.size - i2 ≤ s.size - i1) := by have := H2.len; rw [List.length_drop, List.length_drop, byt_len] at this; exact this
            replace H2 := hide H2
            clear hc2
            go_wp2_with (refine wpList_store_at rfl 3 _ _ rfl (.int .i64 v) ht rfl rfl (by kernel_rfl) rfl (by simp) rfl ?_; intro W3 ht3 hc3)
            replace ht3 : Blk W3 tb 60 #[.int .i64 op, .int .i64 v, .int .u8 0, .slice none 0 0] := ht3
            replace hk := hk.chg1 hc3 (by omega)
            replace hd := hd.chg1 hc3 (by omega)
            replace hr := hr.chg1 hc3 (by omega)
            replace hC := hC.step hc3 (fun k h => by omega)
            clear ht hc3
            have ht := ht3
            clear ht3
            refine (rword_r g s ⟨#[32, 40]⟩ i2 b2 _ hi2 HS.out (by decide) hk).mono ?_
            rintro e W2 ⟨i3, b3, rfl, hi3, hk2, hc2, H3⟩
            clear hk
            have hk := hk2
            clear hk2
            replace hd := hd.chg1 hc2 (by omega)
            replace hr := hr.chg1 hc2 (by omega)
            replace ht := ht.chg1 hc2 (by omega)
            replace hC := hC.step hc2 (fun k h => by omega)
            have z3 : Hid (s.size - i3 ≤ s.size - i2) := by have := H3.len; rw [List.length_drop, List.length_drop, byt_len] at this; exact this
            replace H3 := hide H3
            clear hc2
            obtain ⟨Wa, rfl⟩ : ∃ X : World, X = W2 := ⟨_, rfl⟩
            have la : tb < Wa.heap.size := ht.lt
            have q3 : Hid (s.size - i3 < f) := by show _ < _; have := z1.out; have := z2.out; have := z3.out; have := HF.out; have := HJ.out; omega
            go_wp2_with fail
            refine (HH.out g d s i3 b3 l1 m1 _ q3.out hi3 HS.out hl3.1 hl3.2 hm1 hgd hk hd).mono ?_
            rintro e W2 ⟨⟨op1, n1, pc1, A1, k1, c1⟩, i4, b4, dv4, rfl, hi4, hk2, hd2, hc2, hdv4, H4⟩
            clear hk hd
            have hk := hk2
            have hd := hd2
            clear hk2 hd2
            dsimp only
            replace hr := hr.chg hc2 (by omega)
            replace ht := ht.chg hc2 (by omega)
            replace hC := hC.step hc2 (fun k h => by omega)
            have z4 : Hid (s.size - i4 ≤ s.size - i3) := by have := H4.len; rw [List.length_drop, List.length_drop, byt_len] at this; exact this
            replace H4 := hide H4
            obtain ⟨Wx, rfl⟩ : ∃ X : World, X = W2 := ⟨_, rfl⟩
            have lx : Wa.heap.size ≤ Wx.heap.size := hc2.size
            clear hc2
            have hb6 := (Below.refl Wx.heap.size Wx).alloc (Nat.le_refl _) (.cells #[.int .i64 op1, .int .i64 n1, .int .u8 pc1, .slice A1 k1 c1] 60)
            replace hk := hk.alloc (.cells #[.int .i64 op1, .int .i64 n1, .int .u8 pc1, .slice A1 k1 c1] 60)
            replace hd := hd.alloc (.cells #[.int .i64 op1, .int .i64 n1, .int .u8 pc1, .slice A1 k1 c1] 60)
            replace hr := hr.alloc (.cells #[.int .i64 op1, .int .i64 n1, .int .u8 pc1, .slice A1 k1 c1] 60)
            replace ht := ht.alloc (.cells #[.int .i64 op1, .int .i64 n1, .int .u8 pc1, .slice A1 k1 c1] 60)
            replace hC := hC.below hb6
            have hKa := (Keeps.refl Wa.heap.size Wx.heap.size Wx).below hb6 (Nat.le_refl _)
            have h6 := Blk.new Wx 60 #[.int .i64 op1, .int .i64 n1, .int .u8 pc1, .slice A1 k1 c1]
            clear hb6
            go_upto_region 22 with fail
            generalize Wx.alloc (.cells #[.int .i64 op1, .int .i64 n1, .int .u8 pc1, .slice A1 k1 c1] 60) = W at *
            go_wp2_with fail
            refine (rword_r g s ⟨#[44, 32]⟩ i4 b4 _ hi4 HS.out (by decide) hk).mono ?_
            rintro e W2 ⟨i5, b5, rfl, hi5, hk2, hc2, H5⟩
            clear hk
            have hk := hk2
            clear hk2
            replace hd := hd.chg1 hc2 (by omega)
            replace hr := hr.chg1 hc2 (by omega)
            replace ht := ht.chg1 hc2 (by omega)
            replace hC := hC.step hc2 (fun k h => by omega)
            replace h6 := h6.chg1 hc2 (by omega)
            replace hKa := hKa.chg1 hc2 (Nat.le_refl _) (.inl (by omega))
            have z5 : Hid (s.size - i5 ≤ s.size - i4) := by have := H5.len; rw [List.length_drop, List.length_drop, byt_len] at this; exact this
            replace H5 := hide H5
            clear hc2
            obtain ⟨Wb, rfl⟩ : ∃ X : World, X = W2 := ⟨_, rfl⟩
            have lb : Wx.heap.size < Wb.heap.size := h6.lt
            have q5 : Hid (s.size - i5 < f) := by show _ < _; have := z4.out; have := z5.out; have := q3.out; omega
            go_wp2_with fail
            refine (HH.out g d s i5 b5 l1 dv4 _ q5.out hi5 HS.out hl3.1 hl3.2 hdv4 hgd hk hd).mono ?_
            rintro e W2 ⟨⟨op2, n2, pc2, A2, k2, c2⟩, i6, b6, dv6, rfl, hi6, hk2, hd2, hc2, hdv6, H6⟩
            clear hk hd
            have hk := hk2
            have hd := hd2
            clear hk2 hd2
            dsimp only
            replace hr := hr.chg hc2 (by omega)
            replace ht := ht.chg hc2 (by omega)
            replace hC := hC.step hc2 (fun k h => by omega)
            replace h6 := h6.chg hc2 (by omega)
            replace hKa := hKa.chgS hc2 (Nat.le_refl _) (fun k h => by omega)
            replace H6 := hide H6
            obtain ⟨Wy, rfl⟩ : ∃ X : World, X = W2 := ⟨_, rfl⟩
            have ly : Wb.heap.size ≤ Wy.heap.size := hc2.size
            clear hc2
            have hb6 := (Below.refl Wy.heap.size Wy).alloc (Nat.le_refl _) (.cells #[.int .i64 op2, .int .i64 n2, .int .u8 pc2, .slice A2 k2 c2] 60)
            replace hk := hk.alloc (.cells #[.int .i64 op2, .int .i64 n2, .int .u8 pc2, .slice A2 k2 c2] 60)
            replace hd := hd.alloc (.cells #[.int .i64 op2, .int .i64 n2, .int .u8 pc2, .slice A2 k2 c2] 60)
            replace hr := hr.alloc (.cells #[.int .i64 op2, .int .i64 n2, .int .u8 pc2, .slice A2 k2 c2] 60)
            replace ht := ht.alloc (.cells #[.int .i64 op2, .int .i64 n2, .int .u8 pc2, .slice A2 k2 c2] 60)
            replace hC := hC.below hb6
            have hKb := (Keeps.refl Wb.heap.size Wy.heap.size Wy).below hb6 (Nat.le_refl _)
            replace hKa := hKa.below hb6 (Nat.le_refl _)
            have h7 := Blk.new Wy 60 #[.int .i64 op2, .int .i64 n2, .int .u8 pc2, .slice A2 k2 c2]
            replace h6 := h6.alloc (.cells #[.int .i64 op2, .int .i64 n2, .int .u8 pc2, .slice A2 k2 c2] 60)
            clear hb6
            go_upto_region 24 with fail
            generalize Wy.alloc (.cells #[.int .i64 op2, .int .i64 n2, .int .u8 pc2, .slice A2 k2 c2] 60) = W at *
            go_wp2_with fail
            refine (rword_r g s ⟨#[41]⟩ i6 b6 _ hi6 HS.out (by decide) hk).mono ?_
            rintro e W2 ⟨i7, b7, rfl, hi7, hk2, hc2, H7⟩
            clear hk
            have hk := hk2
            clear hk2
            replace hd := hd.chg1 hc2 (by omega)
            replace hr := hr.chg1 hc2 (by omega)
            replace ht := ht.chg1 hc2 (by omega)
            replace hC := hC.step hc2 (fun k h => by omega)
            replace h6 := h6.chg1 hc2 (by omega)
            replace h7 := h7.chg1 hc2 (by omega)
            replace hKa := hKa.chg1 hc2 (Nat.le_refl _) (.inl (by omega))
            replace hKb := hKb.chg1 hc2 (Nat.le_refl _) (.inl (by omega))
            replace H7 := hide H7
            clear hc2
            have l7 : Wy.heap.size < W2.heap.size := h7.lt
            have a0 := h6.cell_ 0 rfl
            have a1 := h6.cell_ 1 rfl
            have a2 := h6.cell_ 2 rfl
            have a3 := h6.cell_ 3 rfl
            have d0 := h7.cell_ 0 rfl
            have d1 := h7.cell_ 1 rfl
            have d2 := h7.cell_ 2 rfl
            have d3 := h7.cell_ 3 rfl
            go_upto_region 26 with (refine wpList_store_at rfl 58 _ _ rfl (.slice (some ⟨W2.heap.size, 0, none⟩) 2 2) (ht.alloc _) rfl rfl (by kernel_rfl) rfl (by simp) rfl ?_; intro W3 ht3 hc3)
            have hb8 := (Below.refl W2.heap.size W2).alloc (Nat.le_refl _) (.cells #[.int .i64 op1, .int .i64 n1, .int .u8 pc1, .slice A1 k1 c1, .int .i64 op2, .int .i64 n2, .int .u8 pc2, .slice A2 k2 c2] 60)
            replace hr := (hr.alloc (.cells #[.int .i64 op1, .int .i64 n1, .int .u8 pc1, .slice A1 k1 c1, .int .i64 op2, .int .i64 n2, .int .u8 pc2, .slice A2 k2 c2] 60)).chg1 hc3 (by omega)
            replace hk := (hk.alloc (.cells #[.int .i64 op1, .int .i64 n1, .int .u8 pc1, .slice A1 k1 c1, .int .i64 op2, .int .i64 n2, .int .u8 pc2, .slice A2 k2 c2] 60)).chg1 hc3 (by omega)
            replace hd := (hd.alloc (.cells #[.int .i64 op1, .int .i64 n1, .int .u8 pc1, .slice A1 k1 c1, .int .i64 op2, .int .i64 n2, .int .u8 pc2, .slice A2 k2 c2] 60)).chg1 hc3 (by omega)
            replace hC := (hC.below hb8).step hc3 (fun k h => by omega)
            replace hKa := (hKa.below hb8 (Nat.le_refl _)).chg1 hc3 (Nat.le_refl _) (.inl (by omega))
            replace hKb := (hKb.below hb8 (Nat.le_refl _)).chg1 hc3 (Nat.le_refl _) (.inl (by omega))
            have hP := (Blk.new W2 60 #[.int .i64 op1, .int .i64 n1, .int .u8 pc1, .slice A1 k1 c1, .int .i64 op2, .int .i64 n2, .int .u8 pc2, .slice A2 k2 c2]).chg1 hc3 (by omega)
            replace ht3 : Blk W3 tb 60 #[.int .i64 op, .int .i64 v, .int .u8 0, .slice (some ⟨W2.heap.size, 0, none⟩) 2 2] := ht3
            clear a0 a1 a2 a3 d0 d1 d2 d3 ht h6 h7 hb8 hc3
            have t0 := ht3.cell_ 0 (v := .int .i64 op) rfl
            have t1 := ht3.cell_ 1 (v := .int .i64 v) rfl
            have t2 := ht3.cell_ 2 (v := .int .u8 0) rfl
            have t3 := ht3.cell_ 3 (v := .slice (some ⟨W2.heap.size, 0, none⟩) 2 2) rfl
            try dsimp only [Act.put]
            go_wp2_with (refine wpList_store_blk rfl 60 _ _ rfl #[.int .i64 op, .int .i64 v, .int .u8 0, .slice (some ⟨W2.heap.size, 0, none⟩) 2 2] hr rfl rfl (by kernel_rfl) rfl (by simp [Value.oneCell']) ?_; intro W4 hr4 hc4; have r0 := hr4.cell_ 0 rfl; have r1 := hr4.cell_ 1 rfl; have r2 := hr4.cell_ 2 rfl; have r3 := hr4.cell_ 3 rfl)
            replace hk := hk.chg1 hc4 (by omega)
            replace hd := hd.chg1 hc4 (by omega)
            replace hP := hP.chg1 hc4 (by omega)
            replace hC := hC.step hc4 (fun k h => by omega)
            replace hKa := hKa.chg1 hc4 (Nat.le_refl _) (.inl (by omega))
            replace hKb := hKb.chg1 hc4 (Nat.le_refl _) (.inl (by omega))
            refine bodyPost_ret (v := .agg #[.int .i64 op, .int .i64 v, .int .u8 0, .slice (some ⟨W2.heap.size, 0, none⟩) 2 2]) (by simp [results, Tryd.results76, go_sem, r0, r1, r2, r3]) rfl ⟨⟨op, v, 0, some ⟨W2.heap.size, 0, none⟩, 2, 2⟩, i7, b7, dv6, rfl, hi7, hk, hd, chg_farD hC, hdv6, ?_⟩
            have J := saw_join (c := c) H1.out H2.out H3.out H4.out H5.out H6.out H7.out
            refine ⟨Nat.le_trans J.len HLen.out, fun hb => ?_, fun hb => (J.no hb).imp id fun h => by rw [HSW.out]; exact h⟩
            obtain ⟨e, x', h1, ta, tb2, rfl, ⟨qa, ra⟩, qb, rb⟩ := J.ok hb
            refine ⟨e, _, by rw [HSW.out]; exact h1, ?_, ?_⟩
            · rw [HOP.out]
              exact TreeAt.two (by simpa [TV.enc] using hP) (by omega) (hKa.tree (Nat.le_refl _) (by omega) qa) (hKb.tree (Nat.le_refl _) (by omega) qb)
            · have y1 := htT_pos ta
              have y2 := htT_pos tb2
              have y3 := HM1.out
              have y4 := HL1.out
              show dv6 = max dv (lev + (max (htT ta) (htT tb2) + 1) - 1)
              omega
    · have c1 : decide ((s.size : Int) ≤ (i : Int)) = true := decide_eq_true (by omega)
      have c1' : (s.size : Int) ≤ (i : Int) := by omega
      have HN : Hid (cutT (f + 1) ((byt s).drop i) = none) := by
        show _ = _
        rw [List.drop_eq_nil_of_le (by rw [byt_len]; omega), cutT_nil]
      clear hlt
      go_wp2_with fail
      refine wp_region_quiet (C := fun w' => ∃ u : Since W, w' = u.w) (by kernel_rfl) (by kernel_rfl) (Since.start W) ?_
      dsimp only
      have y_q0 := Since.cell q0
      have y_q1 := Since.cell q1
      have y_q2 := Since.cell q2
      clear q0 q1 q2
      repeat (go_big_quiet_step ((fail)))
      refine wpQuiet_nil ?_
      rintro W ⟨⟨_, hb⟩, rfl⟩
      try dsimp only at hb ⊢
      clear y_q0 y_q1 y_q2
      replace hk := hk.below hb hk.lt
      replace hd := hd.below hb hd.lt
      replace hr := Blk.below hr hb hr.lt
      replace hC := ChgD.below hC hb
      clear hb
      have q0 := hk.cell_ 0 rfl
      have q1 := hk.cell_ 1 rfl
      have q2 := hk.cell_ 2 rfl
      go_upto_region 4 with (refine wpList_store_at rfl 4 _ _ rfl (.bool true) hk rfl rfl (by kernel_rfl) rfl (by simp) rfl ?_; intro W2 hk2 hc2)
      replace hr := hr.chg1 hc2 (by omega)
      replace hC := hC.step hc2 (fun k h => by omega)
      replace hd := hd.chg1 hc2 (by omega)
      clear hk hc2
      have hk := hk2
      clear hk2
      clear q0 q1 q2
      go_wp2_with (refine wpList_store_blk rfl 60 _ _ rfl #[.int .i64 0, .int .i64 0, .int .u8 0, .slice none 0 0] hr rfl rfl (by kernel_rfl) rfl (by simp [Value.oneCell']) ?_; intro W3 hr3 hc3; have r0 := hr3.cell_ 0 rfl; have r1 := hr3.cell_ 1 rfl; have r2 := hr3.cell_ 2 rfl; have r3 := hr3.cell_ 3 rfl)
      replace hk := hk.chg1 hc3 (by omega)
      replace hd := hd.chg1 hc3 (by omega)
      replace hC := hC.step hc3 (fun k h => by omega)
      refine bodyPost_ret (v := .agg #[.int .i64 0, .int .i64 0, .int .u8 0, .slice none 0 0]) (by simp [results, Tryd.results76, go_sem, r0, r1, r2, r3]) rfl ⟨⟨0, 0, 0, none, 0, 0⟩, i, _, m1, rfl, hi, hk, hd, chg_farD hC, hm1, ?_⟩
      exact ⟨Nat.le_refl _, fun h => (by cases h), fun _ => .inr HN.out⟩
theorem rcut_all : ∀ f, RCutAt f
  | 0 => fun g d s i bad lev dv w h => absurd h (by omega)
  | f + 1 => rcut_step f (rcut_all f)
end Go.Proofs.YtecaaimaeaocbaaDoor
