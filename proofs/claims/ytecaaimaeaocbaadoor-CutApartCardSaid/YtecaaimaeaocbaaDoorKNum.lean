/- Numbers of a text: the parser's number. -/
import Derived.Test.YtecaaimaeaocbaaDoorKLink
import Derived.Test.YtecaaimaeaocbaaDoorKLays
import Derived.Deep.DeepCutAuto
import Derived.Deep.CutBlock
namespace Go.Proofs.YtecaaimaeaocbaaDoor
open Go Go.RowKit
/-- the byte at a place, as a number -/
def bat (s : ByteArray) (k : Nat) : Nat := ((byt s).getD k 0).toNat
theorem ix_byte (s : ByteArray) (k : Nat) (h : k < s.size) (w : World) : (Instr.index 9 (.string s) (.int .i64 k)).run Tryd.prog w = .ok (.int .u8 (bat s k)) w := by
  rw [run_index_string w 9 s .i64 _ Tryd.underlying9, dif_pos ⟨by omega, by omega⟩]
  congr 3
  unfold bat byt
  rw [List.getD_eq_getElem?_getD, List.getElem?_eq_getElem (by rw [Array.length_toList]; exact h)]
  rfl
theorem isDig_bat {s : ByteArray} {k : Nat} : isDig ((byt s).getD k 0) = (decide (48 ≤ bat s k) && decide (bat s k ≤ 57)) := rfl
/-- the first k bytes are digits, and the next is none -/
theorem span_take {l : Bs} {k : Nat} (hk : k ≤ l.length) (h1 : ∀ j, j < k → isDig (l.getD j 0) = true) (h2 : k = l.length ∨ isDig (l.getD k 0) = false) : l.takeWhile isDig = l.take k ∧ l.dropWhile isDig = l.drop k := by
  induction l generalizing k with
  | nil => simp at hk; subst hk; simp
  | cons c l ih =>
    cases k with
    | zero =>
      have h3 : isDig c = false := by
        rcases h2 with h2 | h2
        · simp at h2
        · simpa using h2
      rw [List.takeWhile_cons, List.dropWhile_cons, h3]
      simp
    | succ k =>
      have h3 : isDig c = true := by simpa using h1 0 (by omega)
      obtain ⟨e1, e2⟩ := ih (k := k) (by simpa using hk) (fun j hj => by simpa using h1 (j + 1) (by omega)) (by simpa using h2)
      rw [List.takeWhile_cons, List.dropWhile_cons, h3]
      simp [e1, e2]
theorem valD_lt : ∀ (l : Bs), (∀ c ∈ l, isDig c = true) → valD l < 10 ^ l.length := by
  have key : ∀ (l : Bs) (a : Nat), (∀ c ∈ l, isDig c = true) → l.foldl (fun v c => 10 * v + (c.toNat - 48)) a < (a + 1) * 10 ^ l.length := by
    intro l
    induction l with
    | nil => intro a _; simp
    | cons c l ih =>
      intro a h
      have h1 := isDig_iff.1 (h c (by simp))
      have h2 := ih (10 * a + (c.toNat - 48)) fun x hx => h x (by simp [hx])
      rw [List.foldl_cons, List.length_cons]
      refine Nat.lt_of_lt_of_le h2 ?_
      have h3 : 10 * a + (c.toNat - 48) + 1 ≤ 10 * (a + 1) := by omega
      calc _ ≤ 10 * (a + 1) * 10 ^ l.length := Nat.mul_le_mul_right _ h3
        _ = (a + 1) * 10 ^ (l.length + 1) := by rw [Nat.pow_succ]; ac_rfl
  intro l h
  have := key l 0 h
  simpa [valD] using this
theorem decFrom_dig : ∀ (l : Bs) (a : Nat), (∀ c ∈ l, isDig c = true) → Lib.decFrom a l = some (l.foldl (fun v c => 10 * v + (c.toNat - 48)) a)
  | [], a, _ => rfl
  | c :: l, a, h => by
    have h1 := isDig_iff.1 (h c (by simp))
    have h2 : Lib.digitVal c = some (c.toNat - 48) := by unfold Lib.digitVal; rw [if_pos h1]
    unfold Lib.decFrom
    rw [h2]
    dsimp only
    rw [decFrom_dig l _ fun x hx => h x (by simp [hx]), List.foldl_cons, Nat.mul_comm]
theorem atoi_dig {l : Bs} (h : ∀ c ∈ l, isDig c = true) (hne : l ≠ []) : Lib.atoi l = some (valD l : Int) := by
  obtain ⟨c, r, rfl⟩ := List.exists_cons_of_ne_nil hne
  have h1 := isDig_iff.1 (h c (by simp))
  have e1 : (c == 45) = false := by
    rw [beq_eq_false_iff_ne]; rintro rfl; exact absurd h1.1 (by decide)
  have e2 : (c == 43) = false := by
    rw [beq_eq_false_iff_ne]; rintro rfl; exact absurd h1.1 (by decide)
  unfold Lib.atoi
  dsimp only
  rw [e1, e2]
  simp only [Bool.false_eq_true, if_false, Lib.decNat, List.isEmpty_cons]
  rw [decFrom_dig _ _ h]; rfl
/-- what a number leaves: the text behind it, and whether it was one -/
structure NumR (s : ByteArray) (bad : Bool) (v : Nat) (s' : ByteArray) (bad' : Bool) : Prop where
  size : s'.size ≤ s.size
  ok : bad' = false → bad = false ∧ numT (byt s) = some (v, byt s')
  no : bad' = true → bad = true ∨ numT (byt s) = none
/-- the walk's tests, and what they say -/
theorem num_tests {s : ByteArray} {k : Nat} (hk : k ≤ s.size) (h1 : ∀ j, j < k → isDig ((byt s).getD j 0) = true) (h2 : k = s.size ∨ isDig ((byt s).getD k 0) = false) :
    (byt s).takeWhile isDig = (byt s).take k ∧ (byt s).dropWhile isDig = byt (s.extract k s.size) ∧ (byt (s.extract 0 k)) = (byt s).take k := by
  have hl : (byt s).length = s.size := byt_len s
  obtain ⟨e1, e2⟩ := span_take (by rw [hl]; exact hk) h1 (by rw [hl]; exact h2)
  refine ⟨e1, ?_, ?_⟩
  · rw [e2, byt_extract, List.take_of_length_le (by rw [hl]; exact Nat.le_refl _)]
  · rw [byt_extract, List.drop_zero]
theorem atoi_any (s : ByteArray) (v : Int) (hl : s.size ≤ 18) (h : Lib.atoi (byt s) = some v) (w : World) : Calls Tryd.prog 128 #[.string s] w fun e w' => e = .returned (.tuple #[.int .i64 v, .nilIface]) ∧ Below w.heap.size w w' := by
  refine (Any.strconv_Atoi lays172 s v hl h w).mono ?_
  rintro e w' ⟨rfl, t, rfl⟩
  exact ⟨rfl, Lib.below_freeze ((Below.drew (Below.refl _ w)).alloc (Nat.le_refl _) _) (p := ⟨w.heap.size, _, none⟩) (Nat.le_refl _) 1⟩
/-- what a call of number leaves -/
def NumPost (g : Nat) (s : ByteArray) (bad : Bool) (w : World) (e : Ending) (w' : World) : Prop := ∃ (v : Nat) (s' : ByteArray) (bad' : Bool), e = .returned (.int .i64 v) ∧ v ≤ 9999 ∧ Blk w' g 103 #[.string s', .bool bad'] ∧ Chg (fun k => k = g) w w' ∧ NumR s bad v s' bad'
/-- the digits that the walk has found -/
structure NumF (s D R : ByteArray) (k : Nat) : Prop where
  tw : (byt s).takeWhile isDig = byt D
  dw : (byt s).dropWhile isDig = byt R
  dig : ∀ c ∈ byt D, isDig c = true
  dsz : D.size = k
  rsz : R.size ≤ s.size
  hd : 0 < k → (byt s).head? = some ((byt D).getD 0 0)
theorem numF {s D R : ByteArray} {k : Nat} (hk : k ≤ s.size) (h1 : ∀ j, j < k → isDig ((byt s).getD j 0) = true) (h2 : k = s.size ∨ isDig ((byt s).getD k 0) = false) (hD : s.extract 0 k = D) (hR : s.extract k s.size = R) : NumF s D R k := by
  obtain ⟨e1, e2, e3⟩ := num_tests hk h1 h2
  subst hD hR
  have hl : (byt s).length = s.size := byt_len s
  refine ⟨e1.trans e3.symm, e2, fun c hc => ?_, ?_, ?_, fun h0 => ?_⟩
  · rw [e3, ← e1] at hc
    exact takeWhile_all _ c hc
  · rw [← byt_len, e3, List.length_take]; omega
  · rw [← byt_len, ← e2, ← hl]
    exact (List.dropWhile_sublist _).length_le
  · rw [e3]
    cases hb : byt s with
    | nil => rw [hb] at hl; simp at hl; omega
    | cons c l =>
      obtain ⟨k, rfl⟩ : ∃ m, k = m + 1 := ⟨k - 1, by omega⟩
      rfl
theorem NumF.none_ {s D R : ByteArray} {k : Nat} (h : NumF s D R k) (hb : k = 0 ∨ 4 < k ∨ (0 < k ∧ bat D 0 = 48)) : numT (byt s) = none := by
  have hl : (byt D).length = k := (byt_len D).trans h.dsz
  unfold numT
  rw [h.tw, hl, if_pos]
  rcases hb with hb | hb | ⟨hb0, hb⟩
  · exact .inl hb
  · exact .inr (.inl hb)
  · refine .inr (.inr (.inl ?_))
    rw [h.hd hb0]
    congr 1
    exact UInt8.toNat_inj.1 hb
theorem NumF.some_ {s D R : ByteArray} {k : Nat} (h : NumF s D R k) (h0 : 0 < k) (h4 : k ≤ 4) (h8 : bat D 0 ≠ 48) : numT (byt s) = if 1000 < valD (byt D) then none else some (valD (byt D), byt R) := by
  have hl : (byt D).length = k := (byt_len D).trans h.dsz
  unfold numT
  rw [h.tw, h.dw, hl, h.hd h0]
  by_cases hv : 1000 < valD (byt D)
  · rw [if_pos (.inr (.inr (.inr hv))), if_pos hv]
  · rw [if_neg, if_neg hv]
    rintro (h1 | h1 | h1 | h1)
    · omega
    · omega
    · injection h1 with h1
      exact h8 (by unfold bat; rw [h1]; rfl)
    · exact hv h1
theorem NumF.val {s D R : ByteArray} {k : Nat} (h : NumF s D R k) (h0 : 0 < k) (h4 : k ≤ 4) : Lib.atoi (byt D) = some (valD (byt D) : Int) ∧ valD (byt D) ≤ 9999 := by
  have hl : (byt D).length = k := (byt_len D).trans h.dsz
  refine ⟨atoi_dig h.dig fun e => by rw [e] at hl; simp at hl; omega, ?_⟩
  have h1 := valD_lt _ h.dig
  rw [hl] at h1
  have h2 : 10 ^ k ≤ 10 ^ 4 := Nat.pow_le_pow_right (by omega) h4
  omega
set_option maxRecDepth 100000 in
set_option maxHeartbeats 4000000 in
theorem number_any (g : Nat) (s : ByteArray) (bad : Bool) (w : World) (hs : s.size ≤ 1000000) (hk : Blk w g 103 #[.string s, .bool bad]) :
    Calls Tryd.prog 119 #[.pointer (some ⟨g, 0, none⟩)] w fun e w' => NumPost g s bad w e w' := by
  have hgl := hk.lt
  have q0 := hk.cell_ 0 (v := .string s) rfl
  go_enter Tryd.func119, Tryd.ntmps119
  go_upto_block 0 with fail
  go_cut [3] (fun x wr => ∃ k : Nat, k ≤ s.size ∧ x = .int .i64 k ∧ Hid (∀ j, j < k → isDig ((byt s).getD j 0) = true) ∧ Hid (k = s.size ∨ isDig ((byt s).getD k 0) = false) ∧ wr = w)
  case first =>
    go_wp2_with fail
    go_loopw [3] (fun i wr => ∃ k : Nat, k ≤ s.size ∧ i = .int .i64 k ∧ Hid (∀ j, j < k → isDig ((byt s).getD j 0) = true) ∧ wr = w) (fun i _ => s.size - (intOf i).toNat)
    case atStart => exact ⟨0, Nat.zero_le _, rfl, fun j hj => absurd hj (by omega), rfl⟩
    case round =>
      obtain ⟨k, hks, rfl, HD, rfl⟩ := hrel
      by_cases hlt : k < s.size
      · have hix := ix_byte s k hlt
        obtain ⟨x, hx⟩ : ∃ x, bat s k = x := ⟨_, rfl⟩
        have HX := hide hx
        rw [hx] at hix
        clear hx
        have hki : (k : Int) < (s.size : Int) := by omega
        by_cases h48 : 48 ≤ x
        · have g1 : (48 : Int) ≤ (x : Int) := by omega
          by_cases h57 : x ≤ 57
          · have g2 : (x : Int) ≤ 57 := by omega
            go_wp2_with fail
            refine ⟨⟨k + 1, by omega, by go_num, fun j hj => ?_, trivial⟩, by simp [intOf]; omega⟩
            rcases Nat.lt_or_ge j k with h | h
            · exact HD.out j h
            · obtain rfl : j = k := by omega
              rw [isDig_bat, HX.out]
              simp; omega
          · have g2 : ¬ (x : Int) ≤ 57 := by omega
            have HE : Hid (k = s.size ∨ isDig ((byt s).getD k 0) = false) := .inr (by rw [isDig_bat, HX.out]; simp; omega)
            go_wp2_with fail
            go_meet
            exact ⟨k, hks, rfl, HD, HE, rfl⟩
        · have g1 : ¬ (48 : Int) ≤ (x : Int) := by omega
          have HE : Hid (k = s.size ∨ isDig ((byt s).getD k 0) = false) := .inr (by rw [isDig_bat, HX.out]; simp; omega)
          go_wp2_with fail
          go_meet
          exact ⟨k, hks, rfl, HD, HE, rfl⟩
      · have hki : ¬ (k : Int) < (s.size : Int) := by omega
        have HE : Hid (k = s.size ∨ isDig ((byt s).getD k 0) = false) := .inl (by omega)
        go_wp2_with fail
        go_meet
        exact ⟨k, hks, rfl, HD, HE, rfl⟩
  case rest =>
    obtain ⟨k, hks, rfl, HD, HE, rfl⟩ := hcut
    obtain ⟨D, hD⟩ : ∃ D, s.extract 0 k = D := ⟨_, rfl⟩
    obtain ⟨R, hR⟩ : ∃ R, s.extract k s.size = R := ⟨_, rfl⟩
    have HF := hide (numF hks HD.out HE.out hD hR)
    have f1 : (k : Int) ≤ (s.size : Int) := by omega
    have f2 : (0 : Int) ≤ (k : Int) := by omega
    by_cases k0 : k = 0
    · have f3 : ((k : Int) == 0) = true := by simp [k0]
      have HN : Hid (k = 0 ∨ 4 < k ∨ (0 < k ∧ bat D 0 = 48)) := .inl k0
      clear k0
      go_upto_region 6 with (refine wpList_store_at rfl 9 _ _ rfl (.string R) hk rfl rfl (by kernel_rfl) rfl (by simp) rfl ?_; intro W2 hk2 hc2)
      have q1 := hk2.cell_ 1 (v := .bool bad) rfl
      go_wp2_with (refine wpList_store_at rfl 4 _ _ rfl (.bool true) hk2 rfl rfl (by kernel_rfl) rfl (by simp) rfl ?_; intro W3 hk3 hc3)
      go_ret
      exact ⟨0, R, true, rfl, by omega, hk3, hc2.trans hc3, HF.out.rsz, fun h => (by cases h), fun _ => .inr (HF.out.none_ HN.out)⟩
    · have f3 : ((k : Int) == 0) = false := by simp [k0]
      by_cases k4 : 4 < k
      · have f4 : (4 : Int) < (k : Int) := by omega
        have HN : Hid (k = 0 ∨ 4 < k ∨ (0 < k ∧ bat D 0 = 48)) := .inr (.inl k4)
        clear k0 k4
        go_upto_region 6 with (refine wpList_store_at rfl 9 _ _ rfl (.string R) hk rfl rfl (by kernel_rfl) rfl (by simp) rfl ?_; intro W2 hk2 hc2)
        have q1 := hk2.cell_ 1 (v := .bool bad) rfl
        go_wp2_with (refine wpList_store_at rfl 4 _ _ rfl (.bool true) hk2 rfl rfl (by kernel_rfl) rfl (by simp) rfl ?_; intro W3 hk3 hc3)
        go_ret
        exact ⟨0, R, true, rfl, by omega, hk3, hc2.trans hc3, HF.out.rsz, fun h => (by cases h), fun _ => .inr (HF.out.none_ HN.out)⟩
      · have f4 : ¬ (4 : Int) < (k : Int) := by omega
        have hix2 : ∀ w, (Instr.index 9 (.string D) (.int .i64 0)).run Tryd.prog w = .ok (.int .u8 (bat D 0)) w := ix_byte D 0 (by rw [HF.out.dsz]; omega)
        obtain ⟨y, hy⟩ : ∃ y, bat D 0 = y := ⟨_, rfl⟩
        rw [hy] at hix2
        have HY := hide hy
        clear hy
        by_cases y48 : y = 48
        · have f5 : ((y : Int) == 48) = true := by simp [y48]
          have HN : Hid (k = 0 ∨ 4 < k ∨ (0 < k ∧ bat D 0 = 48)) := .inr (.inr ⟨by omega, by rw [HY.out]; exact y48⟩)
          clear k0 k4 y48
          go_upto_region 6 with (refine wpList_store_at rfl 9 _ _ rfl (.string R) hk rfl rfl (by kernel_rfl) rfl (by simp) rfl ?_; intro W2 hk2 hc2)
          have q1 := hk2.cell_ 1 (v := .bool bad) rfl
          go_wp2_with (refine wpList_store_at rfl 4 _ _ rfl (.bool true) hk2 rfl rfl (by kernel_rfl) rfl (by simp) rfl ?_; intro W3 hk3 hc3)
          go_ret
          exact ⟨0, R, true, rfl, by omega, hk3, hc2.trans hc3, HF.out.rsz, fun h => (by cases h), fun _ => .inr (HF.out.none_ HN.out)⟩
        · have f5 : ((y : Int) == 48) = false := by simp; omega
          obtain ⟨v1, v2⟩ := HF.out.val (by omega) (by omega)
          have HS := hide (HF.out.some_ (by omega) (by omega) (by rw [HY.out]; exact y48))
          obtain ⟨v, hv⟩ : ∃ v, valD (byt D) = v := ⟨_, rfl⟩
          rw [hv] at v1 v2 HS
          have H1 := hide v1
          have hds : D.size ≤ 18 := by rw [HF.out.dsz]; omega
          clear k0 k4 y48 hv v1
          go_upto_region 6 with (refine wpList_store_at rfl 9 _ _ rfl (.string R) hk rfl rfl (by kernel_rfl) rfl (by simp) rfl ?_; intro W2 hk2 hc2)
          have hB0 := Below.refl W2.heap.size W2
          go_wp2_with fail
          refine (atoi_any D v hds H1.out _).mono ?_
          rintro e W4 ⟨rfl, hb⟩
          have hk4 := hk2.below hb hk2.lt
          have hc4 := hc2.trans (Chg.of_below (S := fun k => k = g) hb)
          clear hk2 hc2 hb hB0
          have q1 := hk4.cell_ 1 (v := .bool bad) rfl
          by_cases hv : 1000 < v
          · have f6 : (1000 : Int) < (v : Int) := by omega
            cases bad
            · go_wp2_with (refine wpList_store_at rfl 4 _ _ rfl (.bool true) hk4 rfl rfl (by kernel_rfl) rfl (by simp) rfl ?_; intro W3 hk3 hc3)
              go_ret
              exact ⟨v, R, true, rfl, v2, hk3, hc4.trans hc3, HF.out.rsz, fun h => (by cases h), fun _ => .inr (by rw [HS.out, if_pos hv])⟩
            · go_wp2_with (refine wpList_store_at rfl 4 _ _ rfl (.bool true) hk4 rfl rfl (by kernel_rfl) rfl (by simp) rfl ?_; intro W3 hk3 hc3)
              go_ret
              exact ⟨v, R, true, rfl, v2, hk3, hc4.trans hc3, HF.out.rsz, fun h => (by cases h), fun _ => .inl rfl⟩
          · have f6 : ¬ (1000 : Int) < (v : Int) := by omega
            have f6d : decide ((1000 : Int) < (v : Int)) = false := decide_eq_false f6
            cases bad
            · go_wp2_with (refine wpList_store_at rfl 4 _ _ rfl (.bool false) hk4 rfl rfl (by kernel_rfl) rfl (by simp) rfl ?_; intro W3 hk3 hc3)
              go_ret
              exact ⟨v, R, false, rfl, v2, hk3, hc4.trans hc3, HF.out.rsz, fun _ => ⟨rfl, by rw [HS.out, if_neg hv]⟩, fun h => (by cases h)⟩
            · go_wp2_with (refine wpList_store_at rfl 4 _ _ rfl (.bool true) hk4 rfl rfl (by kernel_rfl) rfl (by simp) rfl ?_; intro W3 hk3 hc3)
              go_ret
              exact ⟨v, R, true, rfl, v2, hk3, hc4.trans hc3, HF.out.rsz, fun h => (by cases h), fun _ => .inl rfl⟩
end Go.Proofs.YtecaaimaeaocbaaDoor
