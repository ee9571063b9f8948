/- The document's reader: number. -/
import Derived.Test.YtecaaimaeaocbaaDoorKStep
import Derived.Deep.CutBlock
import Derived.Deep.DeepCutAuto
namespace Go.Proofs.YtecaaimaeaocbaaDoor
open Go Go.RowKit
def rdAt (g : Nat) (w : World) : Nat := match w.cell? ⟨g, 1, none⟩ with
  | some (.int _ a) => a.toNat
  | _ => 0
theorem rdAt_is {g : Nat} {w : World} {a : Nat} (h : w.cell? ⟨g, 1, none⟩ = some (.int .i64 a)) : rdAt g w = a := by unfold rdAt; rw [h]; exact Int.toNat_natCast a
theorem drop_getD (l : Bs) (i j : Nat) : (l.drop i).getD j 0 = l.getD (i + j) 0 := by
  rw [List.getD_eq_getElem?_getD, List.getD_eq_getElem?_getD, List.getElem?_drop]
theorem take_snocD {l : Bs} {k : Nat} (h : k < l.length) : l.take (k + 1) = l.take k ++ [l.getD k 0] := by
  rw [List.take_add_one, List.getD_eq_getElem?_getD, List.getElem?_eq_getElem h]; rfl
theorem take_digs {l : Bs} {k : Nat} (hk : k ≤ l.length) (h1 : ∀ j, j < k → isDig (l.getD j 0) = true) : ∃ r, l.takeWhile isDig = l.take k ++ r := by
  induction l generalizing k with
  | nil => simp at hk; subst hk; exact ⟨[], rfl⟩
  | cons c l ih =>
    cases k with
    | zero => exact ⟨_, rfl⟩
    | succ k =>
      have h3 : isDig c = true := by simpa using h1 0 (by omega)
      obtain ⟨r, hr⟩ := ih (k := k) (by simpa using hk) (fun j hj => by simpa using h1 (j + 1) (by omega))
      refine ⟨r, ?_⟩
      rw [List.takeWhile_cons, h3]
      simp [hr]
theorem valD_app (a b : Bs) : valD a ≤ valD (a ++ b) := by
  unfold valD
  rw [List.foldl_append]
  exact valD_ge b _
/-- what the reader's number finds, in the document's own tests -/
theorem rnum_no {l : Bs} {k m : Nat} (hk : k ≤ l.length) (h1 : ∀ j, j < k → isDig (l.getD j 0) = true) (hm : valD (l.take k) = m) (hb : (k = 0 ∧ (k = l.length ∨ isDig (l.getD k 0) = false)) ∨ (0 < k ∧ (l.getD 0 0).toNat = 48) ∨ 1000 < m) : numT l = none := by
  obtain ⟨r, hr⟩ := take_digs hk h1
  unfold numT
  rw [if_pos]
  rcases hb with ⟨h, h2⟩ | ⟨h0, h⟩ | h
  · left
    subst h
    rw [(span_take hk h1 h2).1]; rfl
  · right; right; left
    cases l with
    | nil => simp at hk; omega
    | cons c l =>
      have h' : c.toNat = 48 := by simpa using h
      have : c = 48 := UInt8.toNat_inj.1 h'
      rw [this]; rfl
  · right; right; right
    rw [hr]
    have := valD_app (l.take k) r
    omega
theorem rnum_yes {l : Bs} {k m : Nat} (hk : k ≤ l.length) (h1 : ∀ j, j < k → isDig (l.getD j 0) = true) (hm : valD (l.take k) = m) (h0 : 0 < k) (h8 : (l.getD 0 0).toNat ≠ 48) (h2 : k = l.length ∨ isDig (l.getD k 0) = false) (hm2 : m ≤ 1000) : numT l = some (m, l.drop k) := by
  obtain ⟨e1, e2⟩ := span_take hk h1 h2
  have hl : (l.take k).length = k := by rw [List.length_take]; omega
  have hd : ∀ c ∈ l.take k, isDig c = true := fun c hc => by rw [← e1] at hc; exact takeWhile_all l c hc
  have hh : l.head? ≠ some 48 := by
    cases l with
    | nil => simp
    | cons c l => intro h; simp at h; subst h; exact h8 rfl
  have hh2 : (l.take k).head? ≠ some 48 := by
    cases l with
    | nil => simp
    | cons c l =>
      obtain ⟨k, rfl⟩ : ∃ m, k = m + 1 := ⟨k - 1, by omega⟩
      simpa using hh
  obtain ⟨d1, d2⟩ := digT_val (k - 1) (l.take k) (by rw [hl]; omega) hd hh2
  have h4 : k ≤ 4 := by
    have := digT_short (n := valD (l.take k)) (by omega)
    rw [d1, hl] at this
    exact this
  unfold numT
  rw [e1, e2, hl, hm, if_neg]
  rintro (h | h | h | h)
  · omega
  · omega
  · exact hh h
  · omega
/-- what a call of the reader's number leaves -/
def RNumPost (g : Nat) (s : ByteArray) (i : Nat) (bad : Bool) (w : World) (e : Ending) (w' : World) : Prop :=
  ∃ (v i' : Nat) (bad' : Bool), e = .returned (.int .i64 v) ∧ v ≤ 10009 ∧ i' ≤ s.size ∧ Blk w' g 108 #[.string s, .int .i64 i', .bool bad'] ∧ Chg (fun k => k = g) w w' ∧ StepR numT (fun x => x = v) ((byt s).drop i) bad ((byt s).drop i') bad'
set_option maxRecDepth 100000 in
set_option maxHeartbeats 4000000 in
theorem rnumber_gen (g : Nat) (s : ByteArray) (i : Nat) (bad : Bool) (w W : World) (hi : i ≤ s.size) (hs : s.size ≤ 1000000) (hk : Blk W g 108 #[.string s, .int .i64 i, .bool bad]) (hC : Chg (fun k => k = g) w W) :
    Calls Tryd.prog 98 #[.pointer (some ⟨g, 0, none⟩)] W fun e w' => RNumPost g s i bad w e w' := by
  have q0 := hk.cell_ 0 rfl
  have q1 := hk.cell_ 1 rfl
  have q2 := hk.cell_ 2 rfl
  go_enter Tryd.func98, Tryd.ntmps98
  go_wp2_with fail
  refine wp_region_quiet (C := fun w' => ∃ u : Since W, w' = u.w) (by kernel_rfl) (by kernel_rfl) (Since.start W) ?_
  dsimp only
  have y_q0 := Since.cell q0
  have y_q1 := Since.cell q1
  have y_q2 := Since.cell q2
  clear q0 q1 q2
  repeat (go_big_quiet_step ((fail)))
  refine wpQuiet_nil ?_
  rintro W ⟨⟨_, hb⟩, rfl⟩
  try dsimp only at hb ⊢
  clear y_q0 y_q1 y_q2
  replace hk := hk.below hb hk.lt
  replace hC := (hC).trans (Chg.of_below hb)
  clear hb
  have q0 := hk.cell_ 0 rfl
  have q1 := hk.cell_ 1 rfl
  have q2 := hk.cell_ 2 rfl
  clear q0 q1 q2
  go_upto_block 0 with fail
  go_cut [3] (fun x wr => ∃ (k m : Nat), x = .int .i64 m ∧ i + k ≤ s.size ∧ m ≤ 10009 ∧ Hid (∀ j, j < k → isDig (((byt s).drop i).getD j 0) = true) ∧ Hid (valD (((byt s).drop i).take k) = m) ∧ Hid (1000 < m ∨ k = ((byt s).drop i).length ∨ isDig (((byt s).drop i).getD k 0) = false) ∧ Blk wr g 108 #[.string s, .int .i64 (i + k : Nat), .bool bad] ∧ Chg (fun k => k = g) w wr)
  case first =>
    go_wp2_with fail
    go_loopw [3] (fun x wr => ∃ (k m : Nat), x = .int .i64 m ∧ i + k ≤ s.size ∧ m ≤ 10009 ∧ Hid (∀ j, j < k → isDig (((byt s).drop i).getD j 0) = true) ∧ Hid (valD (((byt s).drop i).take k) = m) ∧ Blk wr g 108 #[.string s, .int .i64 (i + k : Nat), .bool bad] ∧ Chg (fun k => k = g) w wr) (fun _ wr => s.size - rdAt g wr)
    case atStart => exact ⟨0, 0, rfl, hi, by omega, fun j hj => absurd hj (by omega), rfl, hk, hC⟩
    case round =>
      clear hk hC
      obtain ⟨W, rfl⟩ : ∃ W : World, W = wr := ⟨_, rfl⟩
      obtain ⟨k, m, rfl, hik, hm, HD, HM, hk, hC⟩ := hrel
      obtain ⟨a, ha⟩ : ∃ a, i + k = a := ⟨_, rfl⟩
      rw [ha] at hk hik
      have HA := hide ha
      have hlen : ((byt s).drop i).length = s.size - i := by rw [List.length_drop, byt_len]
      have q1' := hk.cell_ 1 (v := .int .i64 a) rfl
      have hme := hide (rdAt_is q1')
      clear q1'
      by_cases hlt : a < s.size
      · have hix := ix_byte s a hlt
        obtain ⟨x, hx⟩ : ∃ x, bat s a = x := ⟨_, rfl⟩
        have HX : Hid ((((byt s).drop i).getD k 0).toNat = x) := by
          show _ = _
          rw [drop_getD, ha, ← hx]; rfl
        rw [hx] at hix
        clear hx
        have c1 : decide ((a : Int) < (s.size : Int)) = true := decide_eq_true (by omega)
        have c1' : (a : Int) < (s.size : Int) := by omega
        have hD1 : isDig (((byt s).drop i).getD k 0) = (decide (48 ≤ x) && decide (x ≤ 57)) := by unfold isDig; rw [HX.out]
        have HD1 := hide hD1
        clear hD1
        by_cases h48 : 48 ≤ x
        · have c2 : decide ((48 : Int) ≤ (x : Int)) = true := decide_eq_true (by omega)
          have c2' : (48 : Int) ≤ (x : Int) := by omega
          by_cases h57 : x ≤ 57
          · have c3 : decide ((x : Int) ≤ 57) = true := decide_eq_true (by omega)
            have c3' : (x : Int) ≤ 57 := by omega
            by_cases hm1 : m ≤ 1000
            · have c4 : decide ((m : Int) ≤ 1000) = true := decide_eq_true (by omega)
              have c4' : (m : Int) ≤ 1000 := by omega
              have HT : Hid (isDig (((byt s).drop i).getD k 0) = true) := by show _ = _; rw [HD1.out, decide_eq_true h48, decide_eq_true h57]; rfl
              obtain ⟨p, hp⟩ : ∃ p, 10 * m = p := ⟨_, rfl⟩
              obtain ⟨y, hy⟩ : ∃ y, x - 48 = y := ⟨_, rfl⟩
              have hpy : p ≤ 10000 ∧ y ≤ 9 := by omega
              have e1 : IntKind.i64.wrap (10 * (m : Int)) = (p : Int) := by rw [IntWalk.i64_in _ (by omega)]; omega
              have e2 : IntKind.u8.wrap ((x : Int) - 48) = (y : Int) := by
                have : (x : Int) - 48 = (y : Int) := by omega
                rw [this]
                exact IntWalk.u8_in _ (by omega)
              have e3 : IntKind.i64.wrap (y : Int) = (y : Int) := IntWalk.i64_in _ (by omega)
              have e4 : IntKind.i64.wrap ((p : Int) + (y : Int)) = ((p + y : Nat) : Int) := by rw [IntWalk.i64_in _ (by omega)]; omega
              have e5 : IntKind.i64.wrap ((a : Int) + 1) = ((a + 1 : Nat) : Int) := by rw [IntWalk.i64_in _ (by omega)]; omega
              have HP := hide (And.intro hp hy)
              clear hp hy h48 h57 hm1
              have q0 := hk.cell_ 0 rfl
              have q1 := hk.cell_ 1 rfl
              have q2 := hk.cell_ 2 rfl
              go_wp2_with fail
              refine wp_region_quiet (C := fun w' => ∃ u : Since W, w' = u.w) (by kernel_rfl) (by kernel_rfl) (Since.start W) ?_
              dsimp only
              have y_q0 := Since.cell q0
              have y_q1 := Since.cell q1
              have y_q2 := Since.cell q2
              clear q0 q1 q2
              repeat (go_big_quiet_step ((fail)))
              refine wpQuiet_nil ?_
              rintro W ⟨⟨_, hb⟩, rfl⟩
              try dsimp only at hb ⊢
              clear y_q0 y_q1 y_q2
              replace hk := hk.below hb hk.lt
              replace hC := (hC).trans (Chg.of_below hb)
              clear hb
              have q0 := hk.cell_ 0 rfl
              have q1 := hk.cell_ 1 rfl
              have q2 := hk.cell_ 2 rfl
              go_wp2_with fail
              refine wp_region_quiet (C := fun w' => ∃ u : Since W, w' = u.w) (by kernel_rfl) (by kernel_rfl) (Since.start W) ?_
              dsimp only
              have y_q0 := Since.cell q0
              have y_q1 := Since.cell q1
              have y_q2 := Since.cell q2
              clear q0 q1 q2
              repeat (go_big_quiet_step ((fail)))
              refine wpQuiet_nil ?_
              rintro W ⟨⟨_, hb⟩, rfl⟩
              try dsimp only at hb ⊢
              clear y_q0 y_q1 y_q2
              replace hk := hk.below hb hk.lt
              replace hC := (hC).trans (Chg.of_below hb)
              clear hb
              have q0 := hk.cell_ 0 rfl
              have q1 := hk.cell_ 1 rfl
              have q2 := hk.cell_ 2 rfl
              go_wp2_with (refine wpList_store_at rfl 3 _ _ rfl (.int .i64 (a + 1 : Nat)) hk rfl rfl (by kernel_rfl) rfl (by simp) rfl ?_; intro W3 hk3 hc3)
              try dsimp only [Act.put]
              go_roundw
              case rel =>
                refine ⟨k + 1, p + y, rfl, by omega, by omega, fun j hj => ?_, ?_, by rw [show i + (k + 1) = a + 1 by have := HA.out; omega]; exact hk3, hC.trans hc3⟩
                · rcases Nat.lt_or_ge j k with h | h
                  · exact HD.out j h
                  · obtain rfl : j = k := by omega
                    exact HT.out
                · show _ = _
                  rw [take_snocD (by omega), valD_snoc, HM.out, HX.out, HP.out.1, HP.out.2]
              case measure => rw [hme.out, rdAt_is (hk3.cell_ 1 (v := .int .i64 (a + 1 : Nat)) rfl)]; omega
            · have c4 : decide ((m : Int) ≤ 1000) = false := decide_eq_false (by omega)
              have c4' : ¬ (m : Int) ≤ 1000 := by omega
              have HE : Hid (1000 < m ∨ k = ((byt s).drop i).length ∨ isDig (((byt s).drop i).getD k 0) = false) := .inl (by omega)
              clear h48 h57 hm1
              have q0 := hk.cell_ 0 rfl
              have q1 := hk.cell_ 1 rfl
              have q2 := hk.cell_ 2 rfl
              go_wp2_with fail
              refine wp_region_quiet (C := fun w' => ∃ u : Since W, w' = u.w) (by kernel_rfl) (by kernel_rfl) (Since.start W) ?_
              dsimp only
              have y_q0 := Since.cell q0
              have y_q1 := Since.cell q1
              have y_q2 := Since.cell q2
              clear q0 q1 q2
              repeat (go_big_quiet_step ((fail)))
              refine wpQuiet_nil ?_
              rintro W ⟨⟨_, hb⟩, rfl⟩
              try dsimp only at hb ⊢
              clear y_q0 y_q1 y_q2
              replace hk := hk.below hb hk.lt
              replace hC := (hC).trans (Chg.of_below hb)
              clear hb
              have q0 := hk.cell_ 0 rfl
              have q1 := hk.cell_ 1 rfl
              have q2 := hk.cell_ 2 rfl
              go_wp2_with fail
              go_meet
              exact ⟨k, m, rfl, by have := HA.out; omega, hm, HD, HM, HE, by rw [HA.out]; exact hk, hC⟩
          · have c3 : decide ((x : Int) ≤ 57) = false := decide_eq_false (by omega)
            have c3' : ¬ (x : Int) ≤ 57 := by omega
            have HE : Hid (1000 < m ∨ k = ((byt s).drop i).length ∨ isDig (((byt s).drop i).getD k 0) = false) := .inr (.inr (by rw [HD1.out, decide_eq_false h57, Bool.and_false]))
            clear h48 h57
            have q0 := hk.cell_ 0 rfl
            have q1 := hk.cell_ 1 rfl
            have q2 := hk.cell_ 2 rfl
            go_wp2_with fail
            refine wp_region_quiet (C := fun w' => ∃ u : Since W, w' = u.w) (by kernel_rfl) (by kernel_rfl) (Since.start W) ?_
            dsimp only
            have y_q0 := Since.cell q0
            have y_q1 := Since.cell q1
            have y_q2 := Since.cell q2
            clear q0 q1 q2
            repeat (go_big_quiet_step ((fail)))
            refine wpQuiet_nil ?_
            rintro W ⟨⟨_, hb⟩, rfl⟩
            try dsimp only at hb ⊢
            clear y_q0 y_q1 y_q2
            replace hk := hk.below hb hk.lt
            replace hC := (hC).trans (Chg.of_below hb)
            clear hb
            have q0 := hk.cell_ 0 rfl
            have q1 := hk.cell_ 1 rfl
            have q2 := hk.cell_ 2 rfl
            go_wp2_with fail
            go_meet
            exact ⟨k, m, rfl, by have := HA.out; omega, hm, HD, HM, HE, by rw [HA.out]; exact hk, hC⟩
        · have c2 : decide ((48 : Int) ≤ (x : Int)) = false := decide_eq_false (by omega)
          have c2' : ¬ (48 : Int) ≤ (x : Int) := by omega
          have HE : Hid (1000 < m ∨ k = ((byt s).drop i).length ∨ isDig (((byt s).drop i).getD k 0) = false) := .inr (.inr (by rw [HD1.out, decide_eq_false h48, Bool.false_and]))
          clear h48
          have q0 := hk.cell_ 0 rfl
          have q1 := hk.cell_ 1 rfl
          have q2 := hk.cell_ 2 rfl
          go_wp2_with fail
          refine wp_region_quiet (C := fun w' => ∃ u : Since W, w' = u.w) (by kernel_rfl) (by kernel_rfl) (Since.start W) ?_
          dsimp only
          have y_q0 := Since.cell q0
          have y_q1 := Since.cell q1
          have y_q2 := Since.cell q2
          clear q0 q1 q2
          repeat (go_big_quiet_step ((fail)))
          refine wpQuiet_nil ?_
          rintro W ⟨⟨_, hb⟩, rfl⟩
          try dsimp only at hb ⊢
          clear y_q0 y_q1 y_q2
          replace hk := hk.below hb hk.lt
          replace hC := (hC).trans (Chg.of_below hb)
          clear hb
          have q0 := hk.cell_ 0 rfl
          have q1 := hk.cell_ 1 rfl
          have q2 := hk.cell_ 2 rfl
          go_wp2_with fail
          go_meet
          exact ⟨k, m, rfl, by have := HA.out; omega, hm, HD, HM, HE, by rw [HA.out]; exact hk, hC⟩
      · have c1 : decide ((a : Int) < (s.size : Int)) = false := decide_eq_false (by omega)
        have c1' : ¬ (a : Int) < (s.size : Int) := by omega
        have HE : Hid (1000 < m ∨ k = ((byt s).drop i).length ∨ isDig (((byt s).drop i).getD k 0) = false) := .inr (.inl (by omega))
        have q0 := hk.cell_ 0 rfl
        have q1 := hk.cell_ 1 rfl
        have q2 := hk.cell_ 2 rfl
        go_wp2_with fail
        refine wp_region_quiet (C := fun w' => ∃ u : Since W, w' = u.w) (by kernel_rfl) (by kernel_rfl) (Since.start W) ?_
        dsimp only
        have y_q0 := Since.cell q0
        have y_q1 := Since.cell q1
        have y_q2 := Since.cell q2
        clear q0 q1 q2
        repeat (go_big_quiet_step ((fail)))
        refine wpQuiet_nil ?_
        rintro W ⟨⟨_, hb⟩, rfl⟩
        try dsimp only at hb ⊢
        clear y_q0 y_q1 y_q2
        replace hk := hk.below hb hk.lt
        replace hC := (hC).trans (Chg.of_below hb)
        clear hb
        have q0 := hk.cell_ 0 rfl
        have q1 := hk.cell_ 1 rfl
        have q2 := hk.cell_ 2 rfl
        go_wp2_with fail
        go_meet
        exact ⟨k, m, rfl, by have := HA.out; omega, hm, HD, HM, HE, by rw [HA.out]; exact hk, hC⟩
  case rest =>
    clear hk hC
    obtain ⟨k, m, rfl, hik, hm, HD, HM, HE, hk, hC⟩ := hcut
    obtain ⟨a, ha⟩ : ∃ a, i + k = a := ⟨_, rfl⟩
    have hlen : ((byt s).drop i).length = s.size - i := by rw [List.length_drop, byt_len]
    have HKL : Hid (k ≤ ((byt s).drop i).length) := by show _ ≤ _; omega
    rw [ha] at hk
    have HA := hide ha
    have haz : a ≤ s.size := by omega
    have q0 := hk.cell_ 0 (v := .string s) rfl
    have q1 := hk.cell_ 1 (v := .int .i64 a) rfl
    have q2 := hk.cell_ 2 (v := .bool bad) rfl
    by_cases k0 : k = 0
    · have f1 : ((a : Int) == (i : Int)) = true := by
        rw [beq_iff_eq]; omega
      have HN : Hid (numT ((byt s).drop i) = none) := by
        rcases HE.out with h | h
        · exact rnum_no HKL.out HD.out HM.out (.inr (.inr h))
        · exact rnum_no HKL.out HD.out HM.out (.inl ⟨k0, h⟩)
      clear k0 ha hlen
      go_wp2_with (refine wpList_store_at rfl 4 _ _ rfl (.bool true) hk rfl rfl (by kernel_rfl) rfl (by simp) rfl ?_; intro W3 hk3 hc3)
      go_ret
      refine ⟨m, a, true, rfl, hm, haz, hk3, hC.trans hc3, ?_, fun h => (by cases h), fun _ => .inr HN.out⟩
      rw [List.length_drop, List.length_drop]; have := HA.out; omega
    · have f1 : ((a : Int) == (i : Int)) = false := by
        rw [beq_eq_false_iff_ne]; omega
      have hix := ix_byte s i (by omega)
      obtain ⟨x, hx⟩ : ∃ x, bat s i = x := ⟨_, rfl⟩
      have HX : Hid ((((byt s).drop i).getD 0 0).toNat = x) := by
        show _ = _
        rw [drop_getD, ← hx]; rfl
      rw [hx] at hix
      clear hx
      by_cases x48 : x = 48
      · have f2 : ((x : Int) == 48) = true := by simp [x48]
        have HN : Hid (numT ((byt s).drop i) = none) := rnum_no HKL.out HD.out HM.out (.inr (.inl ⟨by omega, by rw [HX.out]; exact x48⟩))
        clear k0 ha hlen x48
        go_wp2_with (refine wpList_store_at rfl 4 _ _ rfl (.bool true) hk rfl rfl (by kernel_rfl) rfl (by simp) rfl ?_; intro W3 hk3 hc3)
        go_ret
        refine ⟨m, a, true, rfl, hm, haz, hk3, hC.trans hc3, ?_, fun h => (by cases h), fun _ => .inr HN.out⟩
        rw [List.length_drop, List.length_drop]; have := HA.out; omega
      · have f2 : ((x : Int) == 48) = false := by simp; omega
        by_cases hm1 : 1000 < m
        · have f3 : (1000 : Int) < (m : Int) := by omega
          have HN : Hid (numT ((byt s).drop i) = none) := rnum_no HKL.out HD.out HM.out (.inr (.inr hm1))
          clear k0 ha hlen x48 hm1
          go_wp2_with (refine wpList_store_at rfl 4 _ _ rfl (.bool true) hk rfl rfl (by kernel_rfl) rfl (by simp) rfl ?_; intro W3 hk3 hc3)
          go_ret
          refine ⟨m, a, true, rfl, hm, haz, hk3, hC.trans hc3, ?_, fun h => (by cases h), fun _ => .inr HN.out⟩
          rw [List.length_drop, List.length_drop]; have := HA.out; omega
        · have f3 : ¬ (1000 : Int) < (m : Int) := by omega
          have f3d : decide ((1000 : Int) < (m : Int)) = false := decide_eq_false f3
          have HY : Hid (numT ((byt s).drop i) = some (m, (byt s).drop a)) := by
            show _ = _
            rw [rnum_yes HKL.out HD.out HM.out (by omega) (by rw [HX.out]; exact x48) (HE.out.resolve_left hm1) (by omega), List.drop_drop, HA.out]
          clear k0 ha hlen x48 hm1
          go_wp2_with fail
          go_ret
          refine ⟨m, a, bad, rfl, hm, haz, hk, hC, ?_, fun h => ⟨h, m, HY.out, rfl⟩, fun h => .inl h⟩
          rw [List.length_drop, List.length_drop]; have := HA.out; omega
end Go.Proofs.YtecaaimaeaocbaaDoor
