/- Clash of the reference: the walk. -/
import Derived.Test.YtecaaimaeaocbaaDoorKClashA
namespace Go.Proofs.YtecaaimaeaocbaaDoor
open Go Go.RowKit
set_option maxRecDepth 100000 in
set_option maxHeartbeats 2000000 in
theorem refClash_any (PW PH PK : Int) (A : Option Addr) (c : Nat) (l : List Pl) (w : World) (hS : Slc Pl.enc 5 w w.heap.size A l) :
    Calls Tryd.prog 28 #[.slice A l.length c, .int .i64 PW, .int .i64 PH, .int .i64 PK] w fun e w' => e = .returned (.tuple #[.bool (cB PW PH PK l), .int .i64 (cE PW PH PK l)]) ∧ Below w.heap.size w w' := by
  have HD : Hid (validC PW PH PK l = (plateOk PW PH PK && decide (l.length ≤ 1000) && l.all plIn)) := rfl
  have HE : Hid (cE PW PH PK l = if validC PW PH PK l then 0 else 2) := rfl
  have HC : Hid (cB PW PH PK l = if validC PW PH PK l then clB PW PH PK l else false) := rfl
  have G : ∀ W, Below w.heap.size w W → Calls Tryd.prog 28 #[.slice A l.length c, .int .i64 PW, .int .i64 PH, .int .i64 PK] W fun e w' => e = .returned (.tuple #[.bool (cB PW PH PK l), .int .i64 (cE PW PH PK l)]) ∧ Below w.heap.size w w' := by
    intro W hB
    go_enter Tryd.func28, Tryd.ntmps28
    cases q1 : plateOk PW PH PK
    case false =>
      have HV : Hid (validC PW PH PK l = false) := by show _ = _; rw [HD.out, q1]; rfl
      go_wp2_with fail
      refine (plate_is PW PH PK _ q1).mono ?_
      rintro e W' ⟨rfl, rfl⟩
      clear q1
      have HV2 : Hid (cE PW PH PK l = 2 ∧ cB PW PH PK l = false) := by show _ ∧ _; rw [HE.out, HC.out, HV.out]; exact ⟨rfl, rfl⟩
      go_wp2_with fail
      go_ret2
      exact ⟨by rw [HV2.out.1, HV2.out.2]; rfl, hB⟩
    by_cases h4 : (1000 : Int) < (l.length : Int)
    · have HV : Hid (validC PW PH PK l = false) := by show _ = _; rw [HD.out, q1, decide_eq_false (by omega)]; rfl
      go_wp2_with fail
      refine (plate_is PW PH PK _ q1).mono ?_
      rintro e W' ⟨rfl, rfl⟩
      clear q1
      have HV2 : Hid (cE PW PH PK l = 2 ∧ cB PW PH PK l = false) := by show _ ∧ _; rw [HE.out, HC.out, HV.out]; exact ⟨rfl, rfl⟩
      go_wp2_with fail
      go_ret2
      exact ⟨by rw [HV2.out.1, HV2.out.2]; rfl, hB⟩
    have HA : Hid (validC PW PH PK l = (l.drop 0).all plIn) := by show _ = _; rw [HD.out, q1, decide_eq_true (by omega)]; rfl
    have HPK : Hid (POk PW PH PK) := plateOk_iff.1 q1
    go_wp2_with fail
    refine (plate_is PW PH PK _ q1).mono ?_
    rintro e W' ⟨rfl, rfl⟩
    clear q1 HD
    go_wp2_with fail
    go_loopw [10] (fun y W => ∃ (i : Nat), y = .int .i64 i ∧ i ≤ l.length ∧ Hid (validC PW PH PK l = (l.drop i).all plIn) ∧ Below w.heap.size w W) (fun y _ => l.length - (intOf y).toNat)
    case atStart => exact ⟨0, rfl, Nat.zero_le _, HA, hB⟩
    case round =>
      clear hB HA
      obtain ⟨W, rfl⟩ : ∃ W : World, W = wr := ⟨_, rfl⟩
      obtain ⟨i, rfl, hi, HA, hB⟩ := hrel
      by_cases hlt : i < l.length
      · obtain ⟨p, b, off, hx, hA, _, d0, d1, d2, d3, d4⟩ := pl_at (hS.below hB) hlt
        have hii : (i : Int) < (l.length : Int) := by omega
        have HX := hide hx
        clear hx
        subst hA
        go_upto_region 7 with fail
        have hm := Blk.new W 38 #[.int .u8 p.pc, .int .i64 p.x, .int .i64 p.y, .int .i64 p.w, .int .i64 p.h]
        have hsz_bx : (W.alloc (.cells #[.int .u8 p.pc, .int .i64 p.x, .int .i64 p.y, .int .i64 p.w, .int .i64 p.h] 38)).heap.size = W.heap.size + 1 := by simp
        have bxge := hB.size
        replace hB := hB.alloc hB.size (.cells #[.int .u8 p.pc, .int .i64 p.x, .int .i64 p.y, .int .i64 p.w, .int .i64 p.h] 38)
        generalize hbx : W.heap.size = bx at *
        generalize W.alloc (.cells #[.int .u8 p.pc, .int .i64 p.x, .int .i64 p.y, .int .i64 p.w, .int .i64 p.h] 38) = W at *
        clear hbx
        have m0 := hm.cell_ 0 rfl
        have m1 := hm.cell_ 1 rfl
        have m2 := hm.cell_ 2 rfl
        have m3 := hm.cell_ 3 rfl
        have m4 := hm.cell_ 4 rfl
        clear d0 d1 d2 d3 d4
        cases q1 : inB 1 p.w 1000
        case false =>
          have HV : Hid (validC PW PH PK l = false) := by show _ = _; rw [HA.out, all_drop HX.out, plIn, q1]; rfl
          go_wp2_with fail
          refine (kfrom_is 1 p.w 1000 _ q1).mono ?_
          rintro e W' ⟨rfl, rfl⟩
          clear q1
          have HV2 : Hid (cE PW PH PK l = 2 ∧ cB PW PH PK l = false) := by show _ ∧ _; rw [HE.out, HC.out, HV.out]; exact ⟨rfl, rfl⟩
          go_wp2_with fail
          go_ret2
          exact ⟨by rw [HV2.out.1, HV2.out.2]; rfl, hB⟩
        cases q2 : inB 1 p.h 1000
        case false =>
          have HV : Hid (validC PW PH PK l = false) := by show _ = _; rw [HA.out, all_drop HX.out, plIn, q1, q2]; rfl
          go_wp2_with fail
          refine (kfrom_is 1 p.w 1000 _ q1).mono ?_
          rintro e W' ⟨rfl, rfl⟩
          clear q1
          go_wp2_with fail
          refine (kfrom_is 1 p.h 1000 _ q2).mono ?_
          rintro e W' ⟨rfl, rfl⟩
          clear q2
          have HV2 : Hid (cE PW PH PK l = 2 ∧ cB PW PH PK l = false) := by show _ ∧ _; rw [HE.out, HC.out, HV.out]; exact ⟨rfl, rfl⟩
          go_wp2_with fail
          go_ret2
          exact ⟨by rw [HV2.out.1, HV2.out.2]; rfl, hB⟩
        cases q3 : inB 0 p.x 1000
        case false =>
          have HV : Hid (validC PW PH PK l = false) := by show _ = _; rw [HA.out, all_drop HX.out, plIn, q1, q2, q3]; rfl
          go_wp2_with fail
          refine (kfrom_is 1 p.w 1000 _ q1).mono ?_
          rintro e W' ⟨rfl, rfl⟩
          clear q1
          go_wp2_with fail
          refine (kfrom_is 1 p.h 1000 _ q2).mono ?_
          rintro e W' ⟨rfl, rfl⟩
          clear q2
          go_wp2_with fail
          refine (kfrom_is 0 p.x 1000 _ q3).mono ?_
          rintro e W' ⟨rfl, rfl⟩
          clear q3
          have HV2 : Hid (cE PW PH PK l = 2 ∧ cB PW PH PK l = false) := by show _ ∧ _; rw [HE.out, HC.out, HV.out]; exact ⟨rfl, rfl⟩
          go_wp2_with fail
          go_ret2
          exact ⟨by rw [HV2.out.1, HV2.out.2]; rfl, hB⟩
        cases q4 : inB 0 p.y 1000
        case false =>
          have HV : Hid (validC PW PH PK l = false) := by show _ = _; rw [HA.out, all_drop HX.out, plIn, q1, q2, q3, q4]; rfl
          go_wp2_with fail
          refine (kfrom_is 1 p.w 1000 _ q1).mono ?_
          rintro e W' ⟨rfl, rfl⟩
          clear q1
          go_wp2_with fail
          refine (kfrom_is 1 p.h 1000 _ q2).mono ?_
          rintro e W' ⟨rfl, rfl⟩
          clear q2
          go_wp2_with fail
          refine (kfrom_is 0 p.x 1000 _ q3).mono ?_
          rintro e W' ⟨rfl, rfl⟩
          clear q3
          go_wp2_with fail
          refine (kfrom_is 0 p.y 1000 _ q4).mono ?_
          rintro e W' ⟨rfl, rfl⟩
          clear q4
          have HV2 : Hid (cE PW PH PK l = 2 ∧ cB PW PH PK l = false) := by show _ ∧ _; rw [HE.out, HC.out, HV.out]; exact ⟨rfl, rfl⟩
          go_wp2_with fail
          go_ret2
          exact ⟨by rw [HV2.out.1, HV2.out.2]; rfl, hB⟩
        have HA2 : Hid (validC PW PH PK l = (l.drop (i + 1)).all plIn) := by show _ = _; rw [HA.out, all_drop HX.out, plIn, q1, q2, q3, q4]; rfl
        go_wp2_with fail
        refine (kfrom_is 1 p.w 1000 _ q1).mono ?_
        rintro e W' ⟨rfl, rfl⟩
        clear q1
        go_wp2_with fail
        refine (kfrom_is 1 p.h 1000 _ q2).mono ?_
        rintro e W' ⟨rfl, rfl⟩
        clear q2
        go_wp2_with fail
        refine (kfrom_is 0 p.x 1000 _ q3).mono ?_
        rintro e W' ⟨rfl, rfl⟩
        clear q3
        go_wp2_with fail
        refine (kfrom_is 0 p.y 1000 _ q4).mono ?_
        rintro e W' ⟨rfl, rfl⟩
        clear q4
        go_wp2_with fail
        go_roundw
        case rel => exact ⟨i + 1, by go_num, by omega, HA2, hB⟩
        case measure => simp [intOf]; omega
      · obtain rfl : i = l.length := by omega
        have HVC : Hid (validC PW PH PK l = true) := by show _ = _; rw [HA.out, List.drop_length]; rfl
        have HE2 : Hid (cE PW PH PK l = 0 ∧ cB PW PH PK l = clB PW PH PK l) := by show _ ∧ _; rw [HE.out, HC.out, HVC.out]; exact ⟨rfl, rfl⟩
        clear HA HE HC
        go_wp2_with fail
        go_loopw [12] (fun y W => ∃ (i : Nat), y = .int .i64 i ∧ i ≤ l.length ∧ Hid (clB PW PH PK (l.take i) = false) ∧ Below w.heap.size w W) (fun y _ => l.length - (intOf y).toNat)
        case atStart => exact ⟨0, rfl, Nat.zero_le _, hide clB_nil, hB⟩
        case round =>
          clear hB
          obtain ⟨W, rfl⟩ : ∃ W : World, W = wr := ⟨_, rfl⟩
          obtain ⟨i, rfl, hi, HCB, hB⟩ := hrel
          by_cases hlt : i < l.length
          · obtain ⟨p, b, off, hx, hA, _, d0, d1, d2, d3, d4⟩ := pl_at (hS.below hB) hlt
            have hii : (i : Int) < (l.length : Int) := by omega
            have HP := hide (validC_all HVC.out hx)
            have HSN := hide (clB_snoc (W := PW) (H := PH) (K := PK) hx)
            clear hx
            subst hA
            go_upto_region 13 with fail
            have hm := Blk.new W 38 #[.int .u8 p.pc, .int .i64 p.x, .int .i64 p.y, .int .i64 p.w, .int .i64 p.h]
            have hsz_bx : (W.alloc (.cells #[.int .u8 p.pc, .int .i64 p.x, .int .i64 p.y, .int .i64 p.w, .int .i64 p.h] 38)).heap.size = W.heap.size + 1 := by simp
            have bxge := hB.size
            replace hB := hB.alloc hB.size (.cells #[.int .u8 p.pc, .int .i64 p.x, .int .i64 p.y, .int .i64 p.w, .int .i64 p.h] 38)
            generalize hbx : W.heap.size = bx at *
            generalize W.alloc (.cells #[.int .u8 p.pc, .int .i64 p.x, .int .i64 p.y, .int .i64 p.w, .int .i64 p.h] 38) = W at *
            clear hbx
            have m0 := hm.cell_ 0 rfl
            have m1 := hm.cell_ 1 rfl
            have m2 := hm.cell_ 2 rfl
            have m3 := hm.cell_ 3 rfl
            have m4 := hm.cell_ 4 rfl
            clear d0 d1 d2 d3 d4
            obtain ⟨p1, p2, p3, p4⟩ := HP.out
            by_cases o1 : PW < p.x + p.w
            · have HT : Hid (clB PW PH PK l = true) := clB_more (n := i + 1) (by rw [HSN.out, HCB.out]; unfold outB; rw [decide_eq_true o1]; rfl)
              go_wp2_with fail
              go_ret2
              exact ⟨by rw [HE2.out.1, HE2.out.2, HT.out]; rfl, hB⟩
            by_cases o2 : PH < p.y + p.h
            · have HT : Hid (clB PW PH PK l = true) := clB_more (n := i + 1) (by rw [HSN.out, HCB.out]; unfold outB; rw [decide_eq_true o2]; simp)
              go_wp2_with fail
              go_ret2
              exact ⟨by rw [HE2.out.1, HE2.out.2, HT.out]; rfl, hB⟩
            have HOB : Hid (outB PW PH p = false) := by show _ = _; unfold outB; rw [decide_eq_false o1, decide_eq_false o2]; rfl
            go_wp2_with fail
            clear m0 m1 m2 m3 m4
            go_loopw [14] (fun y W => ∃ (j : Nat), y = .int .i64 j ∧ j ≤ i ∧ Hid (((l.take j).any fun q => !apB PK p q) = false) ∧ Blk W bx 38 #[.int .u8 p.pc, .int .i64 p.x, .int .i64 p.y, .int .i64 p.w, .int .i64 p.h] ∧ Below w.heap.size w W) (fun y _ => i - (intOf y).toNat)
            case atStart => exact ⟨0, rfl, Nat.zero_le _, hide rfl, hm, hB⟩
            case round =>
              clear hm hB
              obtain ⟨W, rfl⟩ : ∃ W : World, W = wr := ⟨_, rfl⟩
              obtain ⟨j, rfl, hj, HI, hm, hB⟩ := hrel
              by_cases hjl : j < i
              · obtain ⟨q, hq, d0, d1, d2, d3, d4⟩ := pl_at2 (k := j) (hS.below hB) (by omega)
                have hjj : (j : Int) < (i : Int) := by omega
                have hjn : (j : Int) < (l.length : Int) := by omega
                have HS := hide (any_snoc (f := fun q => !apB PK p q) hq)
                obtain ⟨q1, q2, q3, q4⟩ := validC_all HVC.out hq
                have HQ := hide hq
                clear hq
                obtain ⟨kk1, kk2⟩ := HPK.out.k
                have m0 := hm.cell_ 0 rfl
                have m1 := hm.cell_ 1 rfl
                have m2 := hm.cell_ 2 rfl
                have m3 := hm.cell_ 3 rfl
                have m4 := hm.cell_ 4 rfl
                have q_m0 := (hm.alloc (.cells #[.int .u8 q.pc, .int .i64 q.x, .int .i64 q.y, .int .i64 q.w, .int .i64 q.h] 38)).cell_ 0 rfl
                have q_m1 := (hm.alloc (.cells #[.int .u8 q.pc, .int .i64 q.x, .int .i64 q.y, .int .i64 q.w, .int .i64 q.h] 38)).cell_ 1 rfl
                have q_m2 := (hm.alloc (.cells #[.int .u8 q.pc, .int .i64 q.x, .int .i64 q.y, .int .i64 q.w, .int .i64 q.h] 38)).cell_ 2 rfl
                have q_m3 := (hm.alloc (.cells #[.int .u8 q.pc, .int .i64 q.x, .int .i64 q.y, .int .i64 q.w, .int .i64 q.h] 38)).cell_ 3 rfl
                have q_m4 := (hm.alloc (.cells #[.int .u8 q.pc, .int .i64 q.x, .int .i64 q.y, .int .i64 q.w, .int .i64 q.h] 38)).cell_ 4 rfl
                go_upto_region 19 with fail
                clear q_m0 q_m1 q_m2 q_m3 q_m4
                clear m0 m1 m2 m3 m4
                have hn := Blk.new W 38 #[.int .u8 q.pc, .int .i64 q.x, .int .i64 q.y, .int .i64 q.w, .int .i64 q.h]
                replace hm := hm.alloc (.cells #[.int .u8 q.pc, .int .i64 q.x, .int .i64 q.y, .int .i64 q.w, .int .i64 q.h] 38)
                have hsz_bz : (W.alloc (.cells #[.int .u8 q.pc, .int .i64 q.x, .int .i64 q.y, .int .i64 q.w, .int .i64 q.h] 38)).heap.size = W.heap.size + 1 := by simp
                have bzge := hB.size
                replace hB := hB.alloc hB.size (.cells #[.int .u8 q.pc, .int .i64 q.x, .int .i64 q.y, .int .i64 q.w, .int .i64 q.h] 38)
                generalize hbz : W.heap.size = bz at *
                generalize W.alloc (.cells #[.int .u8 q.pc, .int .i64 q.x, .int .i64 q.y, .int .i64 q.w, .int .i64 q.h] 38) = W at *
                clear hbz
                have m0 := hm.cell_ 0 rfl
                have m1 := hm.cell_ 1 rfl
                have m2 := hm.cell_ 2 rfl
                have m3 := hm.cell_ 3 rfl
                have m4 := hm.cell_ 4 rfl
                have n0 := hn.cell_ 0 rfl
                have n1 := hn.cell_ 1 rfl
                have n2 := hn.cell_ 2 rfl
                have n3 := hn.cell_ 3 rfl
                have n4 := hn.cell_ 4 rfl
                clear d0 d1 d2 d3 d4
                by_cases x1 : p.x + p.w + PK ≤ q.x
                · have HI2 : Hid (((l.take (j + 1)).any fun q => !apB PK p q) = false) := by show _ = _; rw [HS.out, HI.out]; unfold apB; rw [decide_eq_true x1]; rfl
                  clear HS HI
                  go_wp2_with fail
                  go_roundw
                  case rel => exact ⟨j + 1, by go_num, by omega, HI2, hm, hB⟩
                  case measure => simp [intOf]; omega
                by_cases x2 : q.x + q.w + PK ≤ p.x
                · have HI2 : Hid (((l.take (j + 1)).any fun q => !apB PK p q) = false) := by show _ = _; rw [HS.out, HI.out]; unfold apB; rw [decide_eq_true x2]; simp
                  clear HS HI
                  go_wp2_with fail
                  go_roundw
                  case rel => exact ⟨j + 1, by go_num, by omega, HI2, hm, hB⟩
                  case measure => simp [intOf]; omega
                by_cases x3 : p.y + p.h + PK ≤ q.y
                · have HI2 : Hid (((l.take (j + 1)).any fun q => !apB PK p q) = false) := by show _ = _; rw [HS.out, HI.out]; unfold apB; rw [decide_eq_true x3]; simp
                  clear HS HI
                  go_wp2_with fail
                  go_roundw
                  case rel => exact ⟨j + 1, by go_num, by omega, HI2, hm, hB⟩
                  case measure => simp [intOf]; omega
                by_cases x4 : q.y + q.h + PK ≤ p.y
                · have HI2 : Hid (((l.take (j + 1)).any fun q => !apB PK p q) = false) := by show _ = _; rw [HS.out, HI.out]; unfold apB; rw [decide_eq_true x4]; simp
                  clear HS HI
                  go_wp2_with fail
                  go_roundw
                  case rel => exact ⟨j + 1, by go_num, by omega, HI2, hm, hB⟩
                  case measure => simp [intOf]; omega
                have HN : Hid (apB PK p q = false) := by show _ = _; unfold apB; rw [decide_eq_false x1, decide_eq_false x2, decide_eq_false x3, decide_eq_false x4]; rfl
                have HT : Hid (clB PW PH PK l = true) := clB_more (n := i + 1) (by
                  rw [HSN.out, HCB.out, HOB.out, Bool.false_or, Bool.false_or, List.any_eq_true]
                  exact ⟨q, List.mem_of_getElem? (i := j) (by rw [List.getElem?_take, if_pos hjl]; exact HQ.out), by rw [HN.out]; rfl⟩)
                go_wp2_with fail
                go_ret2
                exact ⟨by rw [HE2.out.1, HE2.out.2, HT.out]; rfl, hB⟩
              · obtain rfl : j = i := by omega
                have HF : Hid (clB PW PH PK (l.take (j + 1)) = false) := by show _ = _; rw [HSN.out, HCB.out, HOB.out, HI.out]; rfl
                have m0 := hm.cell_ 0 rfl
                have m1 := hm.cell_ 1 rfl
                have m2 := hm.cell_ 2 rfl
                have m3 := hm.cell_ 3 rfl
                have m4 := hm.cell_ 4 rfl
                go_wp2_with fail
                go_roundw
                case rel => exact ⟨j + 1, by go_num, by omega, HF, hB⟩
                case measure => simp [intOf]; omega
          · obtain rfl : i = l.length := by omega
            have HF : Hid (clB PW PH PK l = false) := by show _ = _; rw [← HCB.out, List.take_length]
            go_wp2_with fail
            go_ret2
            exact ⟨by rw [HE2.out.1, HE2.out.2, HF.out]; rfl, hB⟩
  exact G w (Below.refl _ _)
end Go.Proofs.YtecaaimaeaocbaaDoor
