/- Lists of counts: Compare, Equal, ContainsFunc, sameInts, empty, above: the walks. -/
import Derived.Test.YtecaaimaeaocbaaDoorKCanonP
import Derived.Test.YtecaaimaeaocbaaDoorKClone
namespace Go.Proofs.YtecaaimaeaocbaaDoor
open Go Go.RowKit
theorem isNaN_any (a : Int) (w : World) : Calls Tryd.prog 133 #[.int .i64 a] w fun e w' => e = .returned (.bool false) ∧ w = w' := by
  go_enter Tryd.func133, Tryd.ntmps133
  go_wp2
  go_ret
  exact ⟨by simp, rfl⟩
def cmpN (a b : Int) : Int := if a < b then -1 else if b < a then 1 else 0
theorem compare_any (a b : Int) (w : World) : Calls Tryd.prog 123 #[.int .i64 a, .int .i64 b] w fun e w' => e = .returned (.int .i64 (cmpN a b)) ∧ w = w' := by
  have HC : Hid (cmpN a b = if a < b then -1 else if b < a then 1 else 0) := rfl
  by_cases h1 : a < b
  · go_enter Tryd.func123, Tryd.ntmps123
    go_wp2_with fail
    refine (isNaN_any _ _).mono ?_
    rintro e W' ⟨rfl, rfl⟩
    go_wp2_with fail
    refine (isNaN_any _ _).mono ?_
    rintro e W' ⟨rfl, rfl⟩
    go_wp2_with fail
    go_ret
    exact ⟨ret_int (by rw [HC.out, if_pos h1]), rfl⟩
  · by_cases h2 : b < a
    · go_enter Tryd.func123, Tryd.ntmps123
      go_wp2_with fail
      refine (isNaN_any _ _).mono ?_
      rintro e W' ⟨rfl, rfl⟩
      go_wp2_with fail
      refine (isNaN_any _ _).mono ?_
      rintro e W' ⟨rfl, rfl⟩
      go_wp2_with fail
      go_ret
      exact ⟨ret_int (by rw [HC.out, if_neg (by omega), if_pos h2]), rfl⟩
    · go_enter Tryd.func123, Tryd.ntmps123
      go_wp2_with fail
      refine (isNaN_any _ _).mono ?_
      rintro e W' ⟨rfl, rfl⟩
      go_wp2_with fail
      refine (isNaN_any _ _).mono ?_
      rintro e W' ⟨rfl, rfl⟩
      go_wp2_with fail
      go_ret
      exact ⟨ret_int (by rw [HC.out, if_neg (by omega), if_neg (by omega)]), rfl⟩
theorem compare_is (a b : Int) (w : World) {v : Int} (h : cmpN a b = v) : Calls Tryd.prog 123 #[.int .i64 a, .int .i64 b] w fun e w' => e = .returned (.int .i64 v) ∧ w = w' := by
  subst h; exact compare_any a b w
theorem cmpL_drop {a b : List Int} {i : Nat} {x y : Int} (hx : a[i]? = some x) (hy : b[i]? = some y) : cmpL (a.drop i) (b.drop i) = if cmpN x y = 0 then cmpL (a.drop (i + 1)) (b.drop (i + 1)) else cmpN x y := by
  obtain ⟨h1, h2⟩ := List.getElem?_eq_some_iff.1 hx
  obtain ⟨h3, h4⟩ := List.getElem?_eq_some_iff.1 hy
  rw [List.drop_eq_getElem_cons h1, List.drop_eq_getElem_cons h3, h2, h4, cmpL]
  unfold cmpN
  by_cases k1 : x < y
  · rw [if_pos k1, if_pos k1]; rfl
  · by_cases k2 : y < x
    · rw [if_neg k1, if_pos k2, if_neg k1, if_pos k2]; rfl
    · rw [if_neg k1, if_neg k2, if_neg k1, if_neg k2, if_pos rfl]
theorem cmpL_more {a b : List Int} {i : Nat} (ha : i < a.length) (hb : ¬ i < b.length) : cmpL (a.drop i) (b.drop i) = 1 := by
  rw [List.drop_eq_getElem_cons ha, show b.drop i = [] from List.drop_of_length_le (by omega)]; rfl
set_option maxRecDepth 100000 in
set_option maxHeartbeats 1000000 in
theorem compareL_any (A : Option Addr) (cA : Nat) (a : List Int) (B : Option Addr) (cB : Nat) (b : List Int) (w : World) (hA : Slc intEnc 1 w w.heap.size A a) (hB : Slc intEnc 1 w w.heap.size B b) (hl : a.length ≤ 100000) (hl2 : b.length ≤ 100000) :
    Calls Tryd.prog 107 #[.slice A a.length cA, .slice B b.length cB] w fun e w' => e = .returned (.int .i64 (cmpL a b)) ∧ w = w' := by
  go_enter Tryd.func107, Tryd.ntmps107
  go_wp2_with fail
  go_loopw [11] (fun y W => ∃ i : Nat, y = .int .i64 i ∧ i ≤ a.length ∧ i ≤ b.length ∧ Hid (cmpL a b = cmpL (a.drop i) (b.drop i)) ∧ w = W) (fun y _ => a.length - (intOf y).toNat)
  case atStart => exact ⟨0, rfl, Nat.zero_le _, Nat.zero_le _, hide rfl, rfl⟩
  case round =>
    obtain ⟨i, rfl, hi, hj, HC, rfl⟩ := hrel
    by_cases hlt : i < a.length
    · obtain ⟨x, b1, off1, hx, hA1, _, d0⟩ := ints_at' hA hlt
      have hii : (i : Int) < (a.length : Int) := by omega
      by_cases hlb : i < b.length
      · obtain ⟨y, b2, off2, hy, hB1, _, d1⟩ := ints_at' hB hlb
        have hjj : (i : Int) < (b.length : Int) := by omega
        have HD := hide (cmpL_drop hx hy)
        obtain ⟨v, hv⟩ : ∃ v, cmpN x y = v := ⟨_, rfl⟩
        rw [hv] at HD
        have HV := hide hv
        clear hx hy hv
        subst hA1 hB1
        go_wp2_with fail
        refine (compare_is x y _ HV.out).mono ?_
        rintro e w' ⟨rfl, rfl⟩
        by_cases h0 : v = 0
        · have hne : (v != 0) = false := by simp [h0]
          have HC2 : Hid (cmpL a b = cmpL (a.drop (i + 1)) (b.drop (i + 1))) := by show _ = _; rw [HC.out, HD.out, if_pos h0]
          clear h0
          go_wp2_with fail
          go_roundw
          case rel => exact ⟨i + 1, by go_num, by omega, by omega, HC2, trivial⟩
          case measure => simp [intOf]; omega
        · have hne : (v != 0) = true := by simp [h0]
          have HC2 : Hid (cmpL a b = v) := by show _ = _; rw [HC.out, HD.out, if_neg h0]
          clear h0
          go_wp2_with fail
          go_ret
          exact ⟨ret_int HC2.out.symm, rfl⟩
      · have hjj : ¬ (i : Int) < (b.length : Int) := by omega
        have HC2 : Hid (cmpL a b = 1) := by show _ = _; rw [HC.out, cmpL_more hlt hlb]
        clear hx
        subst hA1
        go_wp2_with fail
        go_ret
        exact ⟨ret_int HC2.out.symm, rfl⟩
    · obtain rfl : i = a.length := by omega
      by_cases hlb : (a.length : Int) < (b.length : Int)
      · have HC2 : Hid (cmpL a b = -1) := by
          show _ = _
          rw [HC.out, List.drop_length, List.drop_eq_getElem_cons (show a.length < b.length by omega)]; rfl
        go_wp2_with fail
        go_ret
        exact ⟨ret_int HC2.out.symm, rfl⟩
      · have HC2 : Hid (cmpL a b = 0) := by
          show _ = _
          rw [HC.out, List.drop_length, List.drop_of_length_le (by omega)]; rfl
        go_wp2_with fail
        go_ret
        exact ⟨ret_int HC2.out.symm, rfl⟩
def eqL (a b : List Int) : Bool := decide (a = b)
theorem eqL_drop {a b : List Int} {i : Nat} {x y : Int} (hx : a[i]? = some x) (hy : b[i]? = some y) : eqL (a.drop i) (b.drop i) = if x = y then eqL (a.drop (i + 1)) (b.drop (i + 1)) else false := by
  obtain ⟨h1, h2⟩ := List.getElem?_eq_some_iff.1 hx
  obtain ⟨h3, h4⟩ := List.getElem?_eq_some_iff.1 hy
  unfold eqL
  rw [List.drop_eq_getElem_cons h1, List.drop_eq_getElem_cons h3, h2, h4]
  by_cases h : x = y
  · rw [if_pos h, h]; simp
  · rw [if_neg h]; simp [h]
set_option maxRecDepth 100000 in
set_option maxHeartbeats 1000000 in
theorem equalL_any (A : Option Addr) (cA : Nat) (a : List Int) (B : Option Addr) (cB : Nat) (b : List Int) (w : World) (hA : Slc intEnc 1 w w.heap.size A a) (hB : Slc intEnc 1 w w.heap.size B b) (hl : a.length ≤ 100000) :
    Calls Tryd.prog 110 #[.slice A a.length cA, .slice B b.length cB] w fun e w' => e = .returned (.bool (eqL a b)) ∧ Below w.heap.size w w' := by
  have G : ∀ W, Below w.heap.size w W → Calls Tryd.prog 110 #[.slice A a.length cA, .slice B b.length cB] W fun e w' => e = .returned (.bool (eqL a b)) ∧ Below w.heap.size w w' := by
    intro W hBl
    by_cases hll : a.length = b.length
    · have HLL := hide hll
      have hne : ((a.length : Int) != (b.length : Int)) = false := by simp [hll]
      clear hll
      go_enter Tryd.func110, Tryd.ntmps110
      go_wp2_with fail
      go_loopw [13] (fun y W => ∃ (i : Nat), y = .int .i64 i ∧ i ≤ a.length ∧ Hid (eqL a b = eqL (a.drop i) (b.drop i)) ∧ Below w.heap.size w W) (fun y _ => a.length - (intOf y).toNat)
      case atStart => exact ⟨0, rfl, Nat.zero_le _, hide rfl, hBl⟩
      case round =>
        clear hBl
        obtain ⟨W, rfl⟩ : ∃ W : World, W = wr := ⟨_, rfl⟩
        obtain ⟨i, rfl, hi, HC, hBl⟩ := hrel
        by_cases hlt : i < a.length
        · obtain ⟨x, b1, off1, hx, hA1, _, d0⟩ := ints_at' (hA.below hBl) hlt
          obtain ⟨y, b2, off2, hy, hB1, _, d1⟩ := ints_at' (hB.below hBl) (show i < b.length by rw [← HLL.out]; exact hlt)
          have hii : (i : Int) < (a.length : Int) := by omega
          have hjj : (i : Int) < (b.length : Int) := by have := HLL.out; omega
          have HD := hide (eqL_drop hx hy)
          clear hx hy
          subst hA1 hB1
          by_cases h0 : x = y
          · have hn2 : (x != y) = false := by simp [h0]
            have HC2 : Hid (eqL a b = eqL (a.drop (i + 1)) (b.drop (i + 1))) := by show _ = _; rw [HC.out, HD.out, if_pos h0]
            clear h0
            go_wp2_with fail
            refine wp_region_quiet (C := fun w' => ∃ u : Since W, w' = u.w) (by kernel_rfl) (by kernel_rfl) (Since.start W) ?_
            dsimp only
            have y_d0 := Since.cell d0
            have y_d1 := Since.cell d1
            repeat (go_big_quiet_step ((fail)))
            refine wpQuiet_nil ?_
            rintro W ⟨⟨_, hb⟩, rfl⟩
            try dsimp only at hb ⊢
            replace d0 : W.cell? _ = _ := y_d0 ⟨W, hb⟩
            replace d1 : W.cell? _ = _ := y_d1 ⟨W, hb⟩
            clear y_d0 y_d1
            replace hBl := hBl.trans (hb.mono hBl.size)
            clear hb
            go_wp2_with fail
            go_roundw
            case rel => exact ⟨i + 1, by go_num, by omega, HC2, hBl⟩
            case measure => simp [intOf]; omega
          · have hn2 : (x != y) = true := by simp [h0]
            have HC2 : Hid (eqL a b = false) := by show _ = _; rw [HC.out, HD.out, if_neg h0]
            clear h0
            go_wp2_with fail
            refine wp_region_quiet (C := fun w' => ∃ u : Since W, w' = u.w) (by kernel_rfl) (by kernel_rfl) (Since.start W) ?_
            dsimp only
            have y_d0 := Since.cell d0
            have y_d1 := Since.cell d1
            repeat (go_big_quiet_step ((fail)))
            refine wpQuiet_nil ?_
            rintro W ⟨⟨_, hb⟩, rfl⟩
            try dsimp only at hb ⊢
            replace d0 : W.cell? _ = _ := y_d0 ⟨W, hb⟩
            replace d1 : W.cell? _ = _ := y_d1 ⟨W, hb⟩
            clear y_d0 y_d1
            replace hBl := hBl.trans (hb.mono hBl.size)
            clear hb
            go_wp2_with fail
            go_ret
            exact ⟨ret_bool HC2.out.symm, hBl⟩
        · obtain rfl : i = a.length := by omega
          have HC2 : Hid (eqL a b = true) := by
            show _ = _
            rw [HC.out, List.drop_length, List.drop_of_length_le (by rw [HLL.out]; exact Nat.le_refl _)]; rfl
          go_wp2_with fail
          go_ret
          exact ⟨ret_bool HC2.out.symm, hBl⟩
    · have HC2 : Hid (eqL a b = false) := by
        show _ = _
        unfold eqL
        exact decide_eq_false fun h => hll (by rw [h])
      have hne : ((a.length : Int) != (b.length : Int)) = true := by simp; omega
      clear hll
      go_enter Tryd.func110, Tryd.ntmps110
      go_wp2_with fail
      go_ret
      exact ⟨ret_bool HC2.out.symm, hBl⟩
  exact G w (Below.refl _ _)
set_option maxRecDepth 100000 in
set_option maxHeartbeats 1000000 in
theorem sameInts_any (A : Option Addr) (cA : Nat) (a : List Int) (B : Option Addr) (cB : Nat) (b : List Int) (w : World) (hA : Slc intEnc 1 w w.heap.size A a) (hB : Slc intEnc 1 w w.heap.size B b) (hl : a.length ≤ 100000) :
    Calls Tryd.prog 34 #[.slice A a.length cA, .slice B b.length cB] w fun e w' => e = .returned (.bool (eqL a b)) ∧ Below w.heap.size w w' := by
  have G : ∀ W, Below w.heap.size w W → Calls Tryd.prog 34 #[.slice A a.length cA, .slice B b.length cB] W fun e w' => e = .returned (.bool (eqL a b)) ∧ Below w.heap.size w w' := by
    intro W hBl
    by_cases hll : a.length = b.length
    · have HLL := hide hll
      have hne : ((a.length : Int) != (b.length : Int)) = false := by simp [hll]
      clear hll
      go_enter Tryd.func34, Tryd.ntmps34
      go_wp2_with fail
      go_loopw [5] (fun y W => ∃ (i : Nat), y = .int .i64 i ∧ i ≤ a.length ∧ Hid (eqL a b = eqL (a.drop i) (b.drop i)) ∧ Below w.heap.size w W) (fun y _ => a.length - (intOf y).toNat)
      case atStart => exact ⟨0, rfl, Nat.zero_le _, hide rfl, hBl⟩
      case round =>
        clear hBl
        obtain ⟨W, rfl⟩ : ∃ W : World, W = wr := ⟨_, rfl⟩
        obtain ⟨i, rfl, hi, HC, hBl⟩ := hrel
        by_cases hlt : i < a.length
        · obtain ⟨x, b1, off1, hx, hA1, _, d0⟩ := ints_at' (hA.below hBl) hlt
          obtain ⟨y, b2, off2, hy, hB1, _, d1⟩ := ints_at' (hB.below hBl) (show i < b.length by rw [← HLL.out]; exact hlt)
          have hii : (i : Int) < (a.length : Int) := by omega
          have hjj : (i : Int) < (b.length : Int) := by have := HLL.out; omega
          have HD := hide (eqL_drop hx hy)
          clear hx hy
          subst hA1 hB1
          by_cases h0 : x = y
          · have hn2 : (x != y) = false := by simp [h0]
            have HC2 : Hid (eqL a b = eqL (a.drop (i + 1)) (b.drop (i + 1))) := by show _ = _; rw [HC.out, HD.out, if_pos h0]
            clear h0
            go_wp2_with fail
            refine wp_region_quiet (C := fun w' => ∃ u : Since W, w' = u.w) (by kernel_rfl) (by kernel_rfl) (Since.start W) ?_
            dsimp only
            have y_d0 := Since.cell d0
            have y_d1 := Since.cell d1
            repeat (go_big_quiet_step ((fail)))
            refine wpQuiet_nil ?_
            rintro W ⟨⟨_, hb⟩, rfl⟩
            try dsimp only at hb ⊢
            replace d0 : W.cell? _ = _ := y_d0 ⟨W, hb⟩
            replace d1 : W.cell? _ = _ := y_d1 ⟨W, hb⟩
            clear y_d0 y_d1
            replace hBl := hBl.trans (hb.mono hBl.size)
            clear hb
            go_wp2_with fail
            go_roundw
            case rel => exact ⟨i + 1, by go_num, by omega, HC2, hBl⟩
            case measure => simp [intOf]; omega
          · have hn2 : (x != y) = true := by simp [h0]
            have HC2 : Hid (eqL a b = false) := by show _ = _; rw [HC.out, HD.out, if_neg h0]
            clear h0
            go_wp2_with fail
            refine wp_region_quiet (C := fun w' => ∃ u : Since W, w' = u.w) (by kernel_rfl) (by kernel_rfl) (Since.start W) ?_
            dsimp only
            have y_d0 := Since.cell d0
            have y_d1 := Since.cell d1
            repeat (go_big_quiet_step ((fail)))
            refine wpQuiet_nil ?_
            rintro W ⟨⟨_, hb⟩, rfl⟩
            try dsimp only at hb ⊢
            replace d0 : W.cell? _ = _ := y_d0 ⟨W, hb⟩
            replace d1 : W.cell? _ = _ := y_d1 ⟨W, hb⟩
            clear y_d0 y_d1
            replace hBl := hBl.trans (hb.mono hBl.size)
            clear hb
            go_wp2_with fail
            go_ret
            exact ⟨ret_bool HC2.out.symm, hBl⟩
        · obtain rfl : i = a.length := by omega
          have HC2 : Hid (eqL a b = true) := by
            show _ = _
            rw [HC.out, List.drop_length, List.drop_of_length_le (by rw [HLL.out]; exact Nat.le_refl _)]; rfl
          go_wp2_with fail
          go_ret
          exact ⟨ret_bool HC2.out.symm, hBl⟩
    · have HC2 : Hid (eqL a b = false) := by
        show _ = _
        unfold eqL
        exact decide_eq_false fun h => hll (by rw [h])
      have hne : ((a.length : Int) != (b.length : Int)) = true := by simp; omega
      clear hll
      go_enter Tryd.func34, Tryd.ntmps34
      go_wp2_with fail
      go_ret
      exact ⟨ret_bool HC2.out.symm, hBl⟩
  exact G w (Below.refl _ _)
theorem emptyB_drop {ps : List Int} {i : Nat} {x : Int} (h : ps[i]? = some x) : emptyB (ps.drop i) = (decide (x = 0) && emptyB (ps.drop (i + 1))) := by
  unfold emptyB; exact all_drop h
set_option maxRecDepth 100000 in
theorem empty_any (A : Option Addr) (cA : Nat) (a : List Int) (w : World) (hA : Slc intEnc 1 w w.heap.size A a) (hl : a.length ≤ 100000) :
    Calls Tryd.prog 115 #[.slice A a.length cA] w fun e w' => e = .returned (.bool (emptyB a)) ∧ Below w.heap.size w w' := by
  have G : ∀ W, Below w.heap.size w W → Calls Tryd.prog 115 #[.slice A a.length cA] W fun e w' => e = .returned (.bool (emptyB a)) ∧ Below w.heap.size w w' := by
    intro W hBl
    go_enter Tryd.func115, Tryd.ntmps115
    go_wp2_with fail
    go_loopw [3] (fun y W => ∃ (i : Nat), y = .int .i64 i ∧ i ≤ a.length ∧ Hid (emptyB a = emptyB (a.drop i)) ∧ Below w.heap.size w W) (fun y _ => a.length - (intOf y).toNat)
    case atStart => exact ⟨0, rfl, Nat.zero_le _, hide rfl, hBl⟩
    case round =>
      clear hBl
      obtain ⟨W, rfl⟩ : ∃ W : World, W = wr := ⟨_, rfl⟩
      obtain ⟨i, rfl, hi, HC, hBl⟩ := hrel
      by_cases hlt : i < a.length
      · obtain ⟨x, b1, off1, hx, hA1, _, d0⟩ := ints_at' (hA.below hBl) hlt
        have hii : (i : Int) < (a.length : Int) := by omega
        have HD := hide (emptyB_drop hx)
        clear hx
        subst hA1
        by_cases h0 : x = 0
        · have hn2 : (x != 0) = false := by simp [h0]
          have HC2 : Hid (emptyB a = emptyB (a.drop (i + 1))) := by show _ = _; rw [HC.out, HD.out, decide_eq_true h0]; rfl
          clear h0
          go_wp2_with fail
          go_roundw
          case rel => exact ⟨i + 1, by go_num, by omega, HC2, hBl⟩
          case measure => simp [intOf]; omega
        · have hn2 : (x != 0) = true := by simp [h0]
          have HC2 : Hid (emptyB a = false) := by show _ = _; rw [HC.out, HD.out, decide_eq_false h0]; rfl
          clear h0
          go_wp2_with fail
          go_ret
          exact ⟨ret_bool HC2.out.symm, hBl⟩
      · obtain rfl : i = a.length := by omega
        have HC2 : Hid (emptyB a = true) := by show _ = _; rw [HC.out, List.drop_length]; rfl
        go_wp2_with fail
        go_ret
        exact ⟨ret_bool HC2.out.symm, hBl⟩
  exact G w (Below.refl _ _)
end Go.Proofs.YtecaaimaeaocbaaDoor
