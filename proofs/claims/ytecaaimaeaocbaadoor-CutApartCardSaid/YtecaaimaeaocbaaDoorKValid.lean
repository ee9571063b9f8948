/- Valid of both texts: the walks. -/
import Derived.Test.YtecaaimaeaocbaaDoorKP
import Derived.Test.YtecaaimaeaocbaaDoorRows
import Derived.Test.YtecaaimaeaocbaaDoorDraw
import Derived.WalkLawsBesides
import Derived.WalkSpells
import Derived.Outline
import Derived.BigQuiet
import Derived.Deep.QuietTactic
import Derived.Deep.DeepCutAuto
namespace Go.Proofs.YtecaaimaeaocbaaDoor
open Go Go.RowKit
theorem kwithin_any (a n b : Int) (w : World) : Calls Tryd.prog 60 #[.int .i64 a, .int .i64 n, .int .i64 b] w fun e w' => e = .returned (.bool (inB a n b)) ∧ w = w' := by
  have H : Hid (inB a n b = (decide (a ≤ n) && decide (n ≤ b))) := rfl
  by_cases h1 : a ≤ n
  · go_enter Tryd.func60, Tryd.ntmps60
    go_wp2
    all_goals go_ret; rw [H.out]; simp [*]; try omega
  · go_enter Tryd.func60, Tryd.ntmps60
    go_wp2
    go_ret; rw [H.out]; simp; omega
theorem kfrom_any (a n b : Int) (w : World) : Calls Tryd.prog 61 #[.int .i64 a, .int .i64 n, .int .i64 b] w fun e w' => e = .returned (.bool (inB a n b)) ∧ w = w' := by
  have H : Hid (inB a n b = (decide (a ≤ n) && decide (n ≤ b))) := rfl
  by_cases h1 : a ≤ n
  · go_enter Tryd.func61, Tryd.ntmps61
    go_wp2
    all_goals go_ret; rw [H.out]; simp [*]; try omega
  · go_enter Tryd.func61, Tryd.ntmps61
    go_wp2
    go_ret; rw [H.out]; simp; omega
theorem kwithin_is (a n b : Int) (w : World) {v : Bool} (h : inB a n b = v) : Calls Tryd.prog 60 #[.int .i64 a, .int .i64 n, .int .i64 b] w fun e w' => e = .returned (.bool v) ∧ w = w' := by
  subst h; exact kwithin_any a n b w
theorem kfrom_is (a n b : Int) (w : World) {v : Bool} (h : inB a n b = v) : Calls Tryd.prog 61 #[.int .i64 a, .int .i64 n, .int .i64 b] w fun e w' => e = .returned (.bool v) ∧ w = w' := by
  subst h; exact kfrom_any a n b w
set_option maxRecDepth 100000 in
set_option maxHeartbeats 1000000 in
theorem kvalid_any (L K : Int) (A : Option Addr) (c : Nat) (l : List Ask) (w : World) (hS : Slc Ask.enc 2 w w.heap.size A l) :
    Calls Tryd.prog 25 #[.agg #[.int .i64 L, .int .i64 K, .slice A l.length c]] w fun e w' => e = .returned (.bool (validK L K l)) ∧ Below w.heap.size w w' := by
  have HD : Hid (validK L K l = (inB 1 L 1000 && inB 0 K 20 && decide (l.length ≤ 8) && l.all (askOk L))) := rfl
  have hk := Blk.new w 24 #[.int .i64 L, .int .i64 K, .slice A l.length c]
  have hB := (Below.refl w.heap.size w).alloc (Nat.le_refl _) (.cells #[.int .i64 L, .int .i64 K, .slice A l.length c] 24)
  go_enter Tryd.func25, Tryd.ntmps25
  go_upto_region 1 with fail
  generalize w.alloc (.cells #[.int .i64 L, .int .i64 K, .slice A l.length c] 24) = W at *
  have c0 := hk.cell_ 0 rfl
  have c1 := hk.cell_ 1 rfl
  have c2 := hk.cell_ 2 rfl
  cases h1 : inB 1 L 1000
  case false =>
    have HV : Hid (validK L K l = false) := by show _ = _; rw [HD.out, h1]; rfl
    go_wp2_with fail
    refine (kwithin_is 1 L 1000 _ h1).mono ?_
    rintro e W' ⟨rfl, rfl⟩
    clear h1
    go_wp2_with fail
    go_ret
    exact ⟨ret_bool HV.out.symm, hB⟩
  go_wp2_with fail
  refine (kwithin_is 1 L 1000 _ h1).mono ?_
  rintro e W' ⟨rfl, rfl⟩
  cases h2 : inB 0 K 20
  case false =>
    have HV : Hid (validK L K l = false) := by show _ = _; rw [HD.out, h1, h2]; rfl
    clear h1
    go_wp2_with fail
    refine (kwithin_is 0 K 20 _ h2).mono ?_
    rintro e W' ⟨rfl, rfl⟩
    clear h2
    go_wp2_with fail
    go_ret
    exact ⟨ret_bool HV.out.symm, hB⟩
  go_wp2_with fail
  refine (kwithin_is 0 K 20 _ h2).mono ?_
  rintro e W' ⟨rfl, rfl⟩
  by_cases h3 : (8 : Int) < (l.length : Int)
  · have HV : Hid (validK L K l = false) := by show _ = _; rw [HD.out, h1, h2, decide_eq_false (by omega)]; rfl
    clear h1 h2
    go_wp2_with fail
    go_ret
    exact ⟨ret_bool HV.out.symm, hB⟩
  have HA : Hid (validK L K l = (l.drop 0).all (askOk L)) := by show _ = _; rw [HD.out, h1, h2, decide_eq_true (by omega)]; rfl
  clear h1 h2 HD
  go_wp2_with fail
  clear c0 c1 c2
  go_loopw [24] (fun y W => ∃ (i : Nat), y = .int .i64 i ∧ i ≤ l.length ∧ Hid (validK L K l = (l.drop i).all (askOk L)) ∧ Blk W w.heap.size 24 #[.int .i64 L, .int .i64 K, .slice A l.length c] ∧ Below w.heap.size w W) (fun y _ => l.length - (intOf y).toNat)
  case atStart => exact ⟨0, rfl, Nat.zero_le _, HA, hk, hB⟩
  case round =>
    clear hk hB HA
    obtain ⟨W, rfl⟩ : ∃ W : World, W = wr := ⟨_, rfl⟩
    obtain ⟨i, rfl, hi, HA, hk, hB⟩ := hrel
    by_cases hlt : i < l.length
    · obtain ⟨x, b, off, hx, hA, _, d0, d1⟩ := ask_at (hS.below hB) hlt
      have hii : (i : Int) < (l.length : Int) := by omega
      have HX := hide hx
      clear hx
      subst hA
      have c0 := hk.cell_ 0 rfl
      have c1 := hk.cell_ 1 rfl
      have c2 := hk.cell_ 2 rfl
      have q_c0 := (hk.alloc (.cells #[.int .i64 x.len, .int .i64 x.cnt] 45)).cell_ 0 rfl
      have q_c1 := (hk.alloc (.cells #[.int .i64 x.len, .int .i64 x.cnt] 45)).cell_ 1 rfl
      have q_c2 := (hk.alloc (.cells #[.int .i64 x.len, .int .i64 x.cnt] 45)).cell_ 2 rfl
      go_upto_region 6 with fail
      clear q_c0 q_c1 q_c2
      clear c0 c1 c2
      have hm := Blk.new W 45 #[.int .i64 x.len, .int .i64 x.cnt]
      replace hk := hk.alloc (.cells #[.int .i64 x.len, .int .i64 x.cnt] 45)
      have hsz_bx : (W.alloc (.cells #[.int .i64 x.len, .int .i64 x.cnt] 45)).heap.size = W.heap.size + 1 := by simp
      have bxge := hB.size
      replace hB := hB.alloc hB.size (.cells #[.int .i64 x.len, .int .i64 x.cnt] 45)
      generalize hbx : W.heap.size = bx at *
      generalize W.alloc (.cells #[.int .i64 x.len, .int .i64 x.cnt] 45) = W at *
      clear hbx
      have c0 := hk.cell_ 0 rfl
      have c1 := hk.cell_ 1 rfl
      have c2 := hk.cell_ 2 rfl
      have m0 := hm.cell_ 0 rfl
      have m1 := hm.cell_ 1 rfl
      clear d0 d1
      cases q1 : inB 1 x.len L
      case false =>
        have HV : Hid (validK L K l = false) := by show _ = _; rw [HA.out, all_drop HX.out, askOk, q1]; rfl
        go_wp2_with fail
        refine (kwithin_is 1 x.len L _ q1).mono ?_
        rintro e W' ⟨rfl, rfl⟩
        clear q1
        go_wp2_with fail
        go_ret
        exact ⟨ret_bool HV.out.symm, hB⟩
      case true =>
        cases q2 : inB 0 x.cnt 50
        case false =>
          have HV : Hid (validK L K l = false) := by show _ = _; rw [HA.out, all_drop HX.out, askOk, q1, q2]; rfl
          go_wp2_with fail
          refine (kwithin_is 1 x.len L _ q1).mono ?_
          rintro e W' ⟨rfl, rfl⟩
          clear q1
          go_wp2_with fail
          refine (kwithin_is 0 x.cnt 50 _ q2).mono ?_
          rintro e W' ⟨rfl, rfl⟩
          clear q2
          go_wp2_with fail
          go_ret
          exact ⟨ret_bool HV.out.symm, hB⟩
        case true =>
          have HA2 : Hid (validK L K l = (l.drop (i + 1)).all (askOk L)) := by show _ = _; rw [HA.out, all_drop HX.out, askOk, q1, q2]; rfl
          go_wp2_with fail
          refine (kwithin_is 1 x.len L _ q1).mono ?_
          rintro e W' ⟨rfl, rfl⟩
          clear q1
          go_wp2_with fail
          refine (kwithin_is 0 x.cnt 50 _ q2).mono ?_
          rintro e W' ⟨rfl, rfl⟩
          clear q2
          go_wp2_with fail
          go_roundw
          case rel => exact ⟨i + 1, by go_num, by omega, HA2, hk, hB⟩
          case measure => simp [intOf]; omega
    · obtain rfl : i = l.length := by omega
      have HV : Hid (validK L K l = true) := by show _ = _; rw [HA.out, List.drop_length]; rfl
      go_wp2_with fail
      go_ret
      exact ⟨ret_bool HV.out.symm, hB⟩
set_option maxRecDepth 100000 in
set_option maxHeartbeats 1000000 in
theorem refKValid_any (L K : Int) (A : Option Addr) (c : Nat) (l : List Ask) (w : World) (hS : Slc Ask.enc 2 w w.heap.size A l) :
    Calls Tryd.prog 26 #[.agg #[.int .i64 L, .int .i64 K, .slice A l.length c]] w fun e w' => e = .returned (.bool (validK L K l)) ∧ Below w.heap.size w w' := by
  have HD : Hid (validK L K l = (inB 1 L 1000 && inB 0 K 20 && decide (l.length ≤ 8) && l.all (askOk L))) := rfl
  have hk := Blk.new w 24 #[.int .i64 L, .int .i64 K, .slice A l.length c]
  have hB := (Below.refl w.heap.size w).alloc (Nat.le_refl _) (.cells #[.int .i64 L, .int .i64 K, .slice A l.length c] 24)
  go_enter Tryd.func26, Tryd.ntmps26
  go_upto_region 1 with fail
  generalize w.alloc (.cells #[.int .i64 L, .int .i64 K, .slice A l.length c] 24) = W at *
  have c0 := hk.cell_ 0 rfl
  have c1 := hk.cell_ 1 rfl
  have c2 := hk.cell_ 2 rfl
  cases h1 : inB 1 L 1000
  case false =>
    have HV : Hid (validK L K l = false) := by show _ = _; rw [HD.out, h1]; rfl
    go_wp2_with fail
    refine (kfrom_is 1 L 1000 _ h1).mono ?_
    rintro e W' ⟨rfl, rfl⟩
    clear h1
    go_wp2_with fail
    go_ret
    exact ⟨ret_bool HV.out.symm, hB⟩
  go_wp2_with fail
  refine (kfrom_is 1 L 1000 _ h1).mono ?_
  rintro e W' ⟨rfl, rfl⟩
  cases h2 : inB 0 K 20
  case false =>
    have HV : Hid (validK L K l = false) := by show _ = _; rw [HD.out, h1, h2]; rfl
    clear h1
    go_wp2_with fail
    refine (kfrom_is 0 K 20 _ h2).mono ?_
    rintro e W' ⟨rfl, rfl⟩
    clear h2
    go_wp2_with fail
    go_ret
    exact ⟨ret_bool HV.out.symm, hB⟩
  go_wp2_with fail
  refine (kfrom_is 0 K 20 _ h2).mono ?_
  rintro e W' ⟨rfl, rfl⟩
  by_cases h3 : (8 : Int) < (l.length : Int)
  · have HV : Hid (validK L K l = false) := by show _ = _; rw [HD.out, h1, h2, decide_eq_false (by omega)]; rfl
    clear h1 h2
    go_wp2_with fail
    go_ret
    exact ⟨ret_bool HV.out.symm, hB⟩
  have HA : Hid (validK L K l = (l.drop 0).all (askOk L)) := by show _ = _; rw [HD.out, h1, h2, decide_eq_true (by omega)]; rfl
  clear h1 h2 HD
  go_wp2_with fail
  clear c0 c1 c2
  go_loopw [3] (fun y W => ∃ (i : Nat), y = .int .i64 i ∧ i ≤ l.length ∧ Hid (validK L K l = (l.drop i).all (askOk L)) ∧ Blk W w.heap.size 24 #[.int .i64 L, .int .i64 K, .slice A l.length c] ∧ Below w.heap.size w W) (fun y _ => l.length - (intOf y).toNat)
  case atStart => exact ⟨0, rfl, Nat.zero_le _, HA, hk, hB⟩
  case round =>
    clear hk hB HA
    obtain ⟨W, rfl⟩ : ∃ W : World, W = wr := ⟨_, rfl⟩
    obtain ⟨i, rfl, hi, HA, hk, hB⟩ := hrel
    by_cases hlt : i < l.length
    · obtain ⟨x, b, off, hx, hA, _, d0, d1⟩ := ask_at (hS.below hB) hlt
      have hii : (i : Int) < (l.length : Int) := by omega
      have HX := hide hx
      clear hx
      subst hA
      have c0 := hk.cell_ 0 rfl
      have c1 := hk.cell_ 1 rfl
      have c2 := hk.cell_ 2 rfl
      cases q1 : inB 1 x.len L
      case false =>
        have HV : Hid (validK L K l = false) := by show _ = _; rw [HA.out, all_drop HX.out, askOk, q1]; rfl
        obtain ⟨v2, q2⟩ : ∃ v, inB 0 x.cnt 50 = v := ⟨_, rfl⟩
        have Q1 := hide q1
        have Q2 := hide q2
        clear q1 q2
        go_wp2_with fail
        refine wp_region_quiet (C := fun w' => ∃ u : Since W, w' = u.w) (by kernel_rfl) (by kernel_rfl) (Since.start W) ?_
        dsimp only
        have y_c0 := Since.cell c0
        have y_c1 := Since.cell c1
        have y_c2 := Since.cell c2
        have y_d0 := Since.cell d0
        have y_d1 := Since.cell d1
        clear c0 c1 c2
        repeat (go_big_quiet_step ((first | (go_at_call 61; with_reducible exact Since.calls_same (kfrom_is 1 x.len L _ Q1.out)) | (go_at_call 61; with_reducible exact Since.calls_same (kfrom_is 0 x.cnt 50 _ Q2.out)))))
        refine wpQuiet_nil ?_
        rintro W ⟨⟨_, hb⟩, rfl⟩
        try dsimp only at hb ⊢
        replace d0 : W.cell? _ = _ := y_d0 ⟨W, hb⟩
        replace d1 : W.cell? _ = _ := y_d1 ⟨W, hb⟩
        clear y_c0 y_c1 y_c2 y_d0 y_d1
        replace hk := hk.below hb hk.lt
        replace hB := hB.trans (hb.mono hB.size)
        clear hb
        have c0 := hk.cell_ 0 rfl
        have c1 := hk.cell_ 1 rfl
        have c2 := hk.cell_ 2 rfl
        go_wp2_with fail
        go_ret
        exact ⟨ret_bool HV.out.symm, hB⟩
      case true =>
        cases q2 : inB 0 x.cnt 50
        case false =>
          have HV : Hid (validK L K l = false) := by show _ = _; rw [HA.out, all_drop HX.out, askOk, q1, q2]; rfl
          have Q1 := hide q1
          have Q2 := hide q2
          clear q1 q2
          go_wp2_with fail
          refine wp_region_quiet (C := fun w' => ∃ u : Since W, w' = u.w) (by kernel_rfl) (by kernel_rfl) (Since.start W) ?_
          dsimp only
          have y_c0 := Since.cell c0
          have y_c1 := Since.cell c1
          have y_c2 := Since.cell c2
          have y_d0 := Since.cell d0
          have y_d1 := Since.cell d1
          clear c0 c1 c2
          repeat (go_big_quiet_step ((first | (go_at_call 61; with_reducible exact Since.calls_same (kfrom_is 1 x.len L _ Q1.out)) | (go_at_call 61; with_reducible exact Since.calls_same (kfrom_is 0 x.cnt 50 _ Q2.out)))))
          refine wpQuiet_nil ?_
          rintro W ⟨⟨_, hb⟩, rfl⟩
          try dsimp only at hb ⊢
          replace d0 : W.cell? _ = _ := y_d0 ⟨W, hb⟩
          replace d1 : W.cell? _ = _ := y_d1 ⟨W, hb⟩
          clear y_c0 y_c1 y_c2 y_d0 y_d1
          replace hk := hk.below hb hk.lt
          replace hB := hB.trans (hb.mono hB.size)
          clear hb
          have c0 := hk.cell_ 0 rfl
          have c1 := hk.cell_ 1 rfl
          have c2 := hk.cell_ 2 rfl
          go_wp2_with fail
          go_ret
          exact ⟨ret_bool HV.out.symm, hB⟩
        case true =>
          have HA2 : Hid (validK L K l = (l.drop (i + 1)).all (askOk L)) := by show _ = _; rw [HA.out, all_drop HX.out, askOk, q1, q2]; rfl
          have Q1 := hide q1
          have Q2 := hide q2
          clear q1 q2
          go_wp2_with fail
          refine wp_region_quiet (C := fun w' => ∃ u : Since W, w' = u.w) (by kernel_rfl) (by kernel_rfl) (Since.start W) ?_
          dsimp only
          have y_c0 := Since.cell c0
          have y_c1 := Since.cell c1
          have y_c2 := Since.cell c2
          have y_d0 := Since.cell d0
          have y_d1 := Since.cell d1
          clear c0 c1 c2
          repeat (go_big_quiet_step ((first | (go_at_call 61; with_reducible exact Since.calls_same (kfrom_is 1 x.len L _ Q1.out)) | (go_at_call 61; with_reducible exact Since.calls_same (kfrom_is 0 x.cnt 50 _ Q2.out)))))
          refine wpQuiet_nil ?_
          rintro W ⟨⟨_, hb⟩, rfl⟩
          try dsimp only at hb ⊢
          replace d0 : W.cell? _ = _ := y_d0 ⟨W, hb⟩
          replace d1 : W.cell? _ = _ := y_d1 ⟨W, hb⟩
          clear y_c0 y_c1 y_c2 y_d0 y_d1
          replace hk := hk.below hb hk.lt
          replace hB := hB.trans (hb.mono hB.size)
          clear hb
          have c0 := hk.cell_ 0 rfl
          have c1 := hk.cell_ 1 rfl
          have c2 := hk.cell_ 2 rfl
          go_wp2_with fail
          go_roundw
          case rel => exact ⟨i + 1, by go_num, by omega, HA2, hk, hB⟩
          case measure => simp [intOf]; omega
    · obtain rfl : i = l.length := by omega
      have HV : Hid (validK L K l = true) := by show _ = _; rw [HA.out, List.drop_length]; rfl
      have c0 := hk.cell_ 0 rfl
      have c1 := hk.cell_ 1 rfl
      have c2 := hk.cell_ 2 rfl
      go_wp2_with fail
      go_ret
      exact ⟨ret_bool HV.out.symm, hB⟩
end Go.Proofs.YtecaaimaeaocbaaDoor
