/- Clash of the program: the walk. -/
import Derived.Test.YtecaaimaeaocbaaDoorKClash
namespace Go.Proofs.YtecaaimaeaocbaaDoor
open Go Go.RowKit
set_option maxRecDepth 100000 in
set_option maxHeartbeats 2000000 in
theorem clash_any (PW PH PK : Int) (A : Option Addr) (c : Nat) (l : List Pl) (w : World) (hS : Slc Pl.enc 5 w w.heap.size A l) (hc : l.length ≤ c) :
    Calls Tryd.prog 27 #[.slice A l.length c, .int .i64 PW, .int .i64 PH, .int .i64 PK] w fun e w' => e = .returned (.tuple #[.bool (cB PW PH PK l), .int .i64 (cE PW PH PK l)]) ∧ Below w.heap.size w w' := by
  have HD : Hid (validC PW PH PK l = (inB 1 PW 1000 && inB 1 PH 1000 && inB 0 PK 20 && decide (l.length ≤ 1000) && l.all plIn)) := rfl
  have HE : Hid (cE PW PH PK l = if validC PW PH PK l then 0 else 2) := rfl
  have HC : Hid (cB PW PH PK l = if validC PW PH PK l then clB PW PH PK l else false) := rfl
  have G : ∀ W, Below w.heap.size w W → Calls Tryd.prog 27 #[.slice A l.length c, .int .i64 PW, .int .i64 PH, .int .i64 PK] W fun e w' => e = .returned (.tuple #[.bool (cB PW PH PK l), .int .i64 (cE PW PH PK l)]) ∧ Below w.heap.size w w' := by
    intro W hB
    go_enter Tryd.func27, Tryd.ntmps27
    cases q1 : inB 1 PW 1000
    case false =>
      have HV : Hid (validC PW PH PK l = false) := by show _ = _; rw [HD.out, q1]; rfl
      go_wp2_with fail
      refine (kwithin_is 1 PW 1000 _ q1).mono ?_
      rintro e W' ⟨rfl, rfl⟩
      clear q1
      have HV2 : Hid (cE PW PH PK l = 2 ∧ cB PW PH PK l = false) := by show _ ∧ _; rw [HE.out, HC.out, HV.out]; exact ⟨rfl, rfl⟩
      go_wp2_with fail
      go_ret2
      exact ⟨by rw [HV2.out.1, HV2.out.2]; rfl, hB⟩
    cases q2 : inB 1 PH 1000
    case false =>
      have HV : Hid (validC PW PH PK l = false) := by show _ = _; rw [HD.out, q1, q2]; rfl
      go_wp2_with fail
      refine (kwithin_is 1 PW 1000 _ q1).mono ?_
      rintro e W' ⟨rfl, rfl⟩
      clear q1
      go_wp2_with fail
      refine (kwithin_is 1 PH 1000 _ q2).mono ?_
      rintro e W' ⟨rfl, rfl⟩
      clear q2
      have HV2 : Hid (cE PW PH PK l = 2 ∧ cB PW PH PK l = false) := by show _ ∧ _; rw [HE.out, HC.out, HV.out]; exact ⟨rfl, rfl⟩
      go_wp2_with fail
      go_ret2
      exact ⟨by rw [HV2.out.1, HV2.out.2]; rfl, hB⟩
    cases q3 : inB 0 PK 20
    case false =>
      have HV : Hid (validC PW PH PK l = false) := by show _ = _; rw [HD.out, q1, q2, q3]; rfl
      go_wp2_with fail
      refine (kwithin_is 1 PW 1000 _ q1).mono ?_
      rintro e W' ⟨rfl, rfl⟩
      clear q1
      go_wp2_with fail
      refine (kwithin_is 1 PH 1000 _ q2).mono ?_
      rintro e W' ⟨rfl, rfl⟩
      clear q2
      go_wp2_with fail
      refine (kwithin_is 0 PK 20 _ q3).mono ?_
      rintro e W' ⟨rfl, rfl⟩
      clear q3
      have HV2 : Hid (cE PW PH PK l = 2 ∧ cB PW PH PK l = false) := by show _ ∧ _; rw [HE.out, HC.out, HV.out]; exact ⟨rfl, rfl⟩
      go_wp2_with fail
      go_ret2
      exact ⟨by rw [HV2.out.1, HV2.out.2]; rfl, hB⟩
    by_cases h4 : (1000 : Int) < (l.length : Int)
    · have HV : Hid (validC PW PH PK l = false) := by show _ = _; rw [HD.out, q1, q2, q3, decide_eq_false (by omega)]; rfl
      go_wp2_with fail
      refine (kwithin_is 1 PW 1000 _ q1).mono ?_
      rintro e W' ⟨rfl, rfl⟩
      clear q1
      go_wp2_with fail
      refine (kwithin_is 1 PH 1000 _ q2).mono ?_
      rintro e W' ⟨rfl, rfl⟩
      clear q2
      go_wp2_with fail
      refine (kwithin_is 0 PK 20 _ q3).mono ?_
      rintro e W' ⟨rfl, rfl⟩
      clear q3
      have HV2 : Hid (cE PW PH PK l = 2 ∧ cB PW PH PK l = false) := by show _ ∧ _; rw [HE.out, HC.out, HV.out]; exact ⟨rfl, rfl⟩
      go_wp2_with fail
      go_ret2
      exact ⟨by rw [HV2.out.1, HV2.out.2]; rfl, hB⟩
    have HA : Hid (validC PW PH PK l = (l.drop 0).all plIn) := by show _ = _; rw [HD.out, q1, q2, q3, decide_eq_true (by omega)]; rfl
    have HPK : Hid (POk PW PH PK) := plateOk_iff.1 (by unfold plateOk; rw [q1, q2, q3]; rfl)
    go_wp2_with fail
    refine (kwithin_is 1 PW 1000 _ q1).mono ?_
    rintro e W' ⟨rfl, rfl⟩
    clear q1
    go_wp2_with fail
    refine (kwithin_is 1 PH 1000 _ q2).mono ?_
    rintro e W' ⟨rfl, rfl⟩
    clear q2
    go_wp2_with fail
    refine (kwithin_is 0 PK 20 _ q3).mono ?_
    rintro e W' ⟨rfl, rfl⟩
    clear q3 HD
    go_wp2_with fail
    go_loopw [37] (fun y W => ∃ (i : Nat), y = .int .i64 i ∧ i ≤ l.length ∧ Hid (validC PW PH PK l = (l.drop i).all plIn) ∧ Below w.heap.size w W) (fun y _ => l.length - (intOf y).toNat)
    case atStart => exact ⟨0, rfl, Nat.zero_le _, HA, hB⟩
    case round =>
      clear hB HA
      obtain ⟨W, rfl⟩ : ∃ W : World, W = wr := ⟨_, rfl⟩
      obtain ⟨i, rfl, hi, HA, hB⟩ := hrel
      by_cases hlt : i < l.length
      · obtain ⟨p, b, off, hx, hA, _, d0, d1, d2, d3, d4⟩ := pl_at (hS.below hB) hlt
        have hii : (i : Int) < (l.length : Int) := by omega
        have HX := hide hx
        clear hx
        subst hA
        go_upto_region 6 with fail
        have hm := Blk.new W 38 #[.int .u8 p.pc, .int .i64 p.x, .int .i64 p.y, .int .i64 p.w, .int .i64 p.h]
        have hsz_bx : (W.alloc (.cells #[.int .u8 p.pc, .int .i64 p.x, .int .i64 p.y, .int .i64 p.w, .int .i64 p.h] 38)).heap.size = W.heap.size + 1 := by simp
        have bxge := hB.size
        replace hB := hB.alloc hB.size (.cells #[.int .u8 p.pc, .int .i64 p.x, .int .i64 p.y, .int .i64 p.w, .int .i64 p.h] 38)
        generalize hbx : W.heap.size = bx at *
        generalize W.alloc (.cells #[.int .u8 p.pc, .int .i64 p.x, .int .i64 p.y, .int .i64 p.w, .int .i64 p.h] 38) = W at *
        clear hbx
        have m0 := hm.cell_ 0 rfl
        have m1 := hm.cell_ 1 rfl
        have m2 := hm.cell_ 2 rfl
        have m3 := hm.cell_ 3 rfl
        have m4 := hm.cell_ 4 rfl
        clear d0 d1 d2 d3 d4
        cases q1 : plIn p
        case false =>
          have HV : Hid (validC PW PH PK l = false) := by show _ = _; rw [HA.out, all_drop HX.out, q1]; rfl
          have HQ := hide q1
          clear q1
          go_wp2_with fail
          refine (plIn_is p _ HQ.out).mono ?_
          rintro e W ⟨rfl, hb⟩
          clear m0 m1 m2 m3 m4
          replace hm := hm.below hb hm.lt
          replace hB := hB.trans (hb.mono hB.size)
          clear hb
          have m0 := hm.cell_ 0 rfl
          have m1 := hm.cell_ 1 rfl
          have m2 := hm.cell_ 2 rfl
          have m3 := hm.cell_ 3 rfl
          have m4 := hm.cell_ 4 rfl
          have HV2 : Hid (cE PW PH PK l = 2 ∧ cB PW PH PK l = false) := by show _ ∧ _; rw [HE.out, HC.out, HV.out]; exact ⟨rfl, rfl⟩
          go_wp2_with fail
          go_ret2
          exact ⟨by rw [HV2.out.1, HV2.out.2]; rfl, hB⟩
        case true =>
          have HA2 : Hid (validC PW PH PK l = (l.drop (i + 1)).all plIn) := by show _ = _; rw [HA.out, all_drop HX.out, q1]; rfl
          have HQ := hide q1
          clear q1
          go_wp2_with fail
          refine (plIn_is p _ HQ.out).mono ?_
          rintro e W ⟨rfl, hb⟩
          clear m0 m1 m2 m3 m4
          replace hm := hm.below hb hm.lt
          replace hB := hB.trans (hb.mono hB.size)
          clear hb
          have m0 := hm.cell_ 0 rfl
          have m1 := hm.cell_ 1 rfl
          have m2 := hm.cell_ 2 rfl
          have m3 := hm.cell_ 3 rfl
          have m4 := hm.cell_ 4 rfl
          go_wp2_with fail
          go_roundw
          case rel => exact ⟨i + 1, by go_num, by omega, HA2, hB⟩
          case measure => simp [intOf]; omega
      · obtain rfl : i = l.length := by omega
        have HVC : Hid (validC PW PH PK l = true) := by show _ = _; rw [HA.out, List.drop_length]; rfl
        have HE2 : Hid (cE PW PH PK l = 0 ∧ cB PW PH PK l = clB PW PH PK l) := by show _ ∧ _; rw [HE.out, HC.out, HVC.out]; exact ⟨rfl, rfl⟩
        clear HA HE HC
        go_wp2_with fail
        go_loopw [12, 47] (fun x y W => ∃ (i : Nat) (v : Bool), x = .bool v ∧ y = .int .i64 i ∧ i ≤ l.length ∧ Hid (clB PW PH PK (l.take i) = v) ∧ Below w.heap.size w W) (fun x y _ => l.length - (intOf y).toNat)
        case atStart => exact ⟨0, false, rfl, rfl, Nat.zero_le _, hide clB_nil, hB⟩
        case round =>
          clear hB
          obtain ⟨W, rfl⟩ : ∃ W : World, W = wr := ⟨_, rfl⟩
          obtain ⟨i, v, rfl, rfl, hi, HCB, hB⟩ := hrel
          by_cases hlt : i < l.length
          · obtain ⟨p, b, off, hx, hA, _, d0, d1, d2, d3, d4⟩ := pl_at (hS.below hB) hlt
            have hii : (i : Int) < (l.length : Int) := by omega
            have HP := hide (validC_all HVC.out hx)
            have HSN := hide (clB_snoc (W := PW) (H := PH) (K := PK) hx)
            clear hx
            subst hA
            have hs1 := fun w => slice_to b off l.length c i (by omega) w
            have hs2 := fun w => slice_to' b off l.length c i (by omega) w
            go_upto_region 13 with fail
            have hm := Blk.new W 38 #[.int .u8 p.pc, .int .i64 p.x, .int .i64 p.y, .int .i64 p.w, .int .i64 p.h]
            have hsz_bx : (W.alloc (.cells #[.int .u8 p.pc, .int .i64 p.x, .int .i64 p.y, .int .i64 p.w, .int .i64 p.h] 38)).heap.size = W.heap.size + 1 := by simp
            have bxge := hB.size
            replace hB := hB.alloc hB.size (.cells #[.int .u8 p.pc, .int .i64 p.x, .int .i64 p.y, .int .i64 p.w, .int .i64 p.h] 38)
            generalize hbx : W.heap.size = bx at *
            generalize W.alloc (.cells #[.int .u8 p.pc, .int .i64 p.x, .int .i64 p.y, .int .i64 p.w, .int .i64 p.h] 38) = W at *
            clear hbx
            have m0 := hm.cell_ 0 rfl
            have m1 := hm.cell_ 1 rfl
            have m2 := hm.cell_ 2 rfl
            have m3 := hm.cell_ 3 rfl
            have m4 := hm.cell_ 4 rfl
            clear d0 d1 d2 d3 d4
            obtain ⟨p1, p2, p3, p4⟩ := HP.out
            cases v
            case true =>
              have HOB : Hid ((true || outB PW PH p) = true) := rfl
              have HB1 : Hid ((clB PW PH PK (l.take i) || outB PW PH p || (l.take 0).any fun q => !apB PK p q) = true) := by show _ = _; rw [HCB.out, HOB.out]; simp
              clear HCB HOB
              go_wp2_with fail
              clear m0 m1 m2 m3 m4
              go_loopw [12, 75] (fun x y W => ∃ (j : Nat) (v : Bool), x = .bool v ∧ y = .int .i64 j ∧ j ≤ i ∧ Hid ((clB PW PH PK (l.take i) || outB PW PH p || (l.take j).any fun q => !apB PK p q) = v) ∧ Blk W bx 38 #[.int .u8 p.pc, .int .i64 p.x, .int .i64 p.y, .int .i64 p.w, .int .i64 p.h] ∧ Below w.heap.size w W) (fun x y _ => i - (intOf y).toNat)
              case atStart => exact ⟨0, true, rfl, rfl, Nat.zero_le _, HB1, hm, hB⟩
              case round =>
                clear hm hB HB1
                obtain ⟨W, rfl⟩ : ∃ W : World, W = wr := ⟨_, rfl⟩
                obtain ⟨j, v, rfl, rfl, hj, HJ, hm, hB⟩ := hrel
                by_cases hjl : j < i
                · obtain ⟨q, hq, d0, d1, d2, d3, d4⟩ := pl_at2 (k := j) (hS.below hB) (by omega)
                  have hjj : (j : Int) < (i : Int) := by omega
                  have HS := hide (any_snoc (f := fun q => !apB PK p q) hq)
                  have HQ := hide (validC_all HVC.out hq)
                  clear hq
                  have m0 := hm.cell_ 0 rfl
                  have m1 := hm.cell_ 1 rfl
                  have m2 := hm.cell_ 2 rfl
                  have m3 := hm.cell_ 3 rfl
                  have m4 := hm.cell_ 4 rfl
                  have q_m0 := (hm.alloc (.cells #[.int .u8 q.pc, .int .i64 q.x, .int .i64 q.y, .int .i64 q.w, .int .i64 q.h] 38)).cell_ 0 rfl
                  have q_m1 := (hm.alloc (.cells #[.int .u8 q.pc, .int .i64 q.x, .int .i64 q.y, .int .i64 q.w, .int .i64 q.h] 38)).cell_ 1 rfl
                  have q_m2 := (hm.alloc (.cells #[.int .u8 q.pc, .int .i64 q.x, .int .i64 q.y, .int .i64 q.w, .int .i64 q.h] 38)).cell_ 2 rfl
                  have q_m3 := (hm.alloc (.cells #[.int .u8 q.pc, .int .i64 q.x, .int .i64 q.y, .int .i64 q.w, .int .i64 q.h] 38)).cell_ 3 rfl
                  have q_m4 := (hm.alloc (.cells #[.int .u8 q.pc, .int .i64 q.x, .int .i64 q.y, .int .i64 q.w, .int .i64 q.h] 38)).cell_ 4 rfl
                  go_upto_region 17 with fail
                  clear q_m0 q_m1 q_m2 q_m3 q_m4
                  clear m0 m1 m2 m3 m4
                  have hn := Blk.new W 38 #[.int .u8 q.pc, .int .i64 q.x, .int .i64 q.y, .int .i64 q.w, .int .i64 q.h]
                  replace hm := hm.alloc (.cells #[.int .u8 q.pc, .int .i64 q.x, .int .i64 q.y, .int .i64 q.w, .int .i64 q.h] 38)
                  have hsz_bz : (W.alloc (.cells #[.int .u8 q.pc, .int .i64 q.x, .int .i64 q.y, .int .i64 q.w, .int .i64 q.h] 38)).heap.size = W.heap.size + 1 := by simp
                  have bzge := hB.size
                  replace hB := hB.alloc hB.size (.cells #[.int .u8 q.pc, .int .i64 q.x, .int .i64 q.y, .int .i64 q.w, .int .i64 q.h] 38)
                  generalize hbz : W.heap.size = bz at *
                  generalize W.alloc (.cells #[.int .u8 q.pc, .int .i64 q.x, .int .i64 q.y, .int .i64 q.w, .int .i64 q.h] 38) = W at *
                  clear hbz
                  have m0 := hm.cell_ 0 rfl
                  have m1 := hm.cell_ 1 rfl
                  have m2 := hm.cell_ 2 rfl
                  have m3 := hm.cell_ 3 rfl
                  have m4 := hm.cell_ 4 rfl
                  have n0 := hn.cell_ 0 rfl
                  have n1 := hn.cell_ 1 rfl
                  have n2 := hn.cell_ 2 rfl
                  have n3 := hn.cell_ 3 rfl
                  have n4 := hn.cell_ 4 rfl
                  clear d0 d1 d2 d3 d4
                  cases v
                  case true =>
                    have HJ2 : Hid ((clB PW PH PK (l.take i) || outB PW PH p || (l.take (j + 1)).any fun q => !apB PK p q) = true) := by show _ = _; rw [HS.out, ← Bool.or_assoc, HJ.out]; rfl
                    go_wp2_with fail
                    go_roundw
                    case rel => exact ⟨j + 1, true, rfl, by go_num, by omega, HJ2, hm, hB⟩
                    case measure => simp [intOf]; omega
                  case false =>
                    obtain ⟨u, hu⟩ : ∃ u, apB PK p q = u := ⟨_, rfl⟩
                    have HJ2 : Hid ((clB PW PH PK (l.take i) || outB PW PH p || (l.take (j + 1)).any fun q => !apB PK p q) = !u) := by show _ = _; rw [HS.out, ← Bool.or_assoc, HJ.out, hu]; rfl
                    have HU := hide hu
                    clear hu
                    go_wp2_with fail
                    refine (apart_is p q PK _ HP.out HQ.out HPK.out.k HU.out).mono ?_
                    rintro e W ⟨rfl, hb⟩
                    clear m0 m1 m2 m3 m4 n0 n1 n2 n3 n4
                    replace hm := hm.below hb hm.lt
                    replace hn := hn.below hb hn.lt
                    replace hB := hB.trans (hb.mono hB.size)
                    clear hb
                    have m0 := hm.cell_ 0 rfl
                    have m1 := hm.cell_ 1 rfl
                    have m2 := hm.cell_ 2 rfl
                    have m3 := hm.cell_ 3 rfl
                    have m4 := hm.cell_ 4 rfl
                    have n0 := hn.cell_ 0 rfl
                    have n1 := hn.cell_ 1 rfl
                    have n2 := hn.cell_ 2 rfl
                    have n3 := hn.cell_ 3 rfl
                    have n4 := hn.cell_ 4 rfl
                    go_wp2_with fail
                    go_roundw
                    case rel => exact ⟨j + 1, !u, rfl, by go_num, by omega, HJ2, hm, hB⟩
                    case measure => simp [intOf]; omega
                · obtain rfl : j = i := by omega
                  have HF : Hid (clB PW PH PK (l.take (j + 1)) = v) := by show _ = _; rw [HSN.out]; exact HJ.out
                  have m0 := hm.cell_ 0 rfl
                  have m1 := hm.cell_ 1 rfl
                  have m2 := hm.cell_ 2 rfl
                  have m3 := hm.cell_ 3 rfl
                  have m4 := hm.cell_ 4 rfl
                  go_wp2_with fail
                  go_roundw
                  case rel => exact ⟨j + 1, v, rfl, by go_num, by omega, HF, hB⟩
                  case measure => simp [intOf]; omega
            case false =>
              by_cases o1 : PW < p.x + p.w
              · have HOB : Hid ((false || outB PW PH p) = true) := by show _ = _; unfold outB; rw [decide_eq_true o1]; rfl
                have HB1 : Hid ((clB PW PH PK (l.take i) || outB PW PH p || (l.take 0).any fun q => !apB PK p q) = true) := by show _ = _; rw [HCB.out, HOB.out]; simp
                clear HCB HOB
                go_wp2_with fail
                clear m0 m1 m2 m3 m4
                go_loopw [12, 75] (fun x y W => ∃ (j : Nat) (v : Bool), x = .bool v ∧ y = .int .i64 j ∧ j ≤ i ∧ Hid ((clB PW PH PK (l.take i) || outB PW PH p || (l.take j).any fun q => !apB PK p q) = v) ∧ Blk W bx 38 #[.int .u8 p.pc, .int .i64 p.x, .int .i64 p.y, .int .i64 p.w, .int .i64 p.h] ∧ Below w.heap.size w W) (fun x y _ => i - (intOf y).toNat)
                case atStart => exact ⟨0, true, rfl, rfl, Nat.zero_le _, HB1, hm, hB⟩
                case round =>
                  clear hm hB HB1
                  obtain ⟨W, rfl⟩ : ∃ W : World, W = wr := ⟨_, rfl⟩
                  obtain ⟨j, v, rfl, rfl, hj, HJ, hm, hB⟩ := hrel
                  by_cases hjl : j < i
                  · obtain ⟨q, hq, d0, d1, d2, d3, d4⟩ := pl_at2 (k := j) (hS.below hB) (by omega)
                    have hjj : (j : Int) < (i : Int) := by omega
                    have HS := hide (any_snoc (f := fun q => !apB PK p q) hq)
                    have HQ := hide (validC_all HVC.out hq)
                    clear hq
                    have m0 := hm.cell_ 0 rfl
                    have m1 := hm.cell_ 1 rfl
                    have m2 := hm.cell_ 2 rfl
                    have m3 := hm.cell_ 3 rfl
                    have m4 := hm.cell_ 4 rfl
                    have q_m0 := (hm.alloc (.cells #[.int .u8 q.pc, .int .i64 q.x, .int .i64 q.y, .int .i64 q.w, .int .i64 q.h] 38)).cell_ 0 rfl
                    have q_m1 := (hm.alloc (.cells #[.int .u8 q.pc, .int .i64 q.x, .int .i64 q.y, .int .i64 q.w, .int .i64 q.h] 38)).cell_ 1 rfl
                    have q_m2 := (hm.alloc (.cells #[.int .u8 q.pc, .int .i64 q.x, .int .i64 q.y, .int .i64 q.w, .int .i64 q.h] 38)).cell_ 2 rfl
                    have q_m3 := (hm.alloc (.cells #[.int .u8 q.pc, .int .i64 q.x, .int .i64 q.y, .int .i64 q.w, .int .i64 q.h] 38)).cell_ 3 rfl
                    have q_m4 := (hm.alloc (.cells #[.int .u8 q.pc, .int .i64 q.x, .int .i64 q.y, .int .i64 q.w, .int .i64 q.h] 38)).cell_ 4 rfl
                    go_upto_region 17 with fail
                    clear q_m0 q_m1 q_m2 q_m3 q_m4
                    clear m0 m1 m2 m3 m4
                    have hn := Blk.new W 38 #[.int .u8 q.pc, .int .i64 q.x, .int .i64 q.y, .int .i64 q.w, .int .i64 q.h]
                    replace hm := hm.alloc (.cells #[.int .u8 q.pc, .int .i64 q.x, .int .i64 q.y, .int .i64 q.w, .int .i64 q.h] 38)
                    have hsz_bz : (W.alloc (.cells #[.int .u8 q.pc, .int .i64 q.x, .int .i64 q.y, .int .i64 q.w, .int .i64 q.h] 38)).heap.size = W.heap.size + 1 := by simp
                    have bzge := hB.size
                    replace hB := hB.alloc hB.size (.cells #[.int .u8 q.pc, .int .i64 q.x, .int .i64 q.y, .int .i64 q.w, .int .i64 q.h] 38)
                    generalize hbz : W.heap.size = bz at *
                    generalize W.alloc (.cells #[.int .u8 q.pc, .int .i64 q.x, .int .i64 q.y, .int .i64 q.w, .int .i64 q.h] 38) = W at *
                    clear hbz
                    have m0 := hm.cell_ 0 rfl
                    have m1 := hm.cell_ 1 rfl
                    have m2 := hm.cell_ 2 rfl
                    have m3 := hm.cell_ 3 rfl
                    have m4 := hm.cell_ 4 rfl
                    have n0 := hn.cell_ 0 rfl
                    have n1 := hn.cell_ 1 rfl
                    have n2 := hn.cell_ 2 rfl
                    have n3 := hn.cell_ 3 rfl
                    have n4 := hn.cell_ 4 rfl
                    clear d0 d1 d2 d3 d4
                    cases v
                    case true =>
                      have HJ2 : Hid ((clB PW PH PK (l.take i) || outB PW PH p || (l.take (j + 1)).any fun q => !apB PK p q) = true) := by show _ = _; rw [HS.out, ← Bool.or_assoc, HJ.out]; rfl
                      go_wp2_with fail
                      go_roundw
                      case rel => exact ⟨j + 1, true, rfl, by go_num, by omega, HJ2, hm, hB⟩
                      case measure => simp [intOf]; omega
                    case false =>
                      obtain ⟨u, hu⟩ : ∃ u, apB PK p q = u := ⟨_, rfl⟩
                      have HJ2 : Hid ((clB PW PH PK (l.take i) || outB PW PH p || (l.take (j + 1)).any fun q => !apB PK p q) = !u) := by show _ = _; rw [HS.out, ← Bool.or_assoc, HJ.out, hu]; rfl
                      have HU := hide hu
                      clear hu
                      go_wp2_with fail
                      refine (apart_is p q PK _ HP.out HQ.out HPK.out.k HU.out).mono ?_
                      rintro e W ⟨rfl, hb⟩
                      clear m0 m1 m2 m3 m4 n0 n1 n2 n3 n4
                      replace hm := hm.below hb hm.lt
                      replace hn := hn.below hb hn.lt
                      replace hB := hB.trans (hb.mono hB.size)
                      clear hb
                      have m0 := hm.cell_ 0 rfl
                      have m1 := hm.cell_ 1 rfl
                      have m2 := hm.cell_ 2 rfl
                      have m3 := hm.cell_ 3 rfl
                      have m4 := hm.cell_ 4 rfl
                      have n0 := hn.cell_ 0 rfl
                      have n1 := hn.cell_ 1 rfl
                      have n2 := hn.cell_ 2 rfl
                      have n3 := hn.cell_ 3 rfl
                      have n4 := hn.cell_ 4 rfl
                      go_wp2_with fail
                      go_roundw
                      case rel => exact ⟨j + 1, !u, rfl, by go_num, by omega, HJ2, hm, hB⟩
                      case measure => simp [intOf]; omega
                  · obtain rfl : j = i := by omega
                    have HF : Hid (clB PW PH PK (l.take (j + 1)) = v) := by show _ = _; rw [HSN.out]; exact HJ.out
                    have m0 := hm.cell_ 0 rfl
                    have m1 := hm.cell_ 1 rfl
                    have m2 := hm.cell_ 2 rfl
                    have m3 := hm.cell_ 3 rfl
                    have m4 := hm.cell_ 4 rfl
                    go_wp2_with fail
                    go_roundw
                    case rel => exact ⟨j + 1, v, rfl, by go_num, by omega, HF, hB⟩
                    case measure => simp [intOf]; omega
              by_cases o2 : PH < p.y + p.h
              · have HOB : Hid ((false || outB PW PH p) = true) := by show _ = _; unfold outB; rw [decide_eq_true o2]; simp
                have HB1 : Hid ((clB PW PH PK (l.take i) || outB PW PH p || (l.take 0).any fun q => !apB PK p q) = true) := by show _ = _; rw [HCB.out, HOB.out]; simp
                clear HCB HOB
                go_wp2_with fail
                clear m0 m1 m2 m3 m4
                go_loopw [12, 75] (fun x y W => ∃ (j : Nat) (v : Bool), x = .bool v ∧ y = .int .i64 j ∧ j ≤ i ∧ Hid ((clB PW PH PK (l.take i) || outB PW PH p || (l.take j).any fun q => !apB PK p q) = v) ∧ Blk W bx 38 #[.int .u8 p.pc, .int .i64 p.x, .int .i64 p.y, .int .i64 p.w, .int .i64 p.h] ∧ Below w.heap.size w W) (fun x y _ => i - (intOf y).toNat)
                case atStart => exact ⟨0, true, rfl, rfl, Nat.zero_le _, HB1, hm, hB⟩
                case round =>
                  clear hm hB HB1
                  obtain ⟨W, rfl⟩ : ∃ W : World, W = wr := ⟨_, rfl⟩
                  obtain ⟨j, v, rfl, rfl, hj, HJ, hm, hB⟩ := hrel
                  by_cases hjl : j < i
                  · obtain ⟨q, hq, d0, d1, d2, d3, d4⟩ := pl_at2 (k := j) (hS.below hB) (by omega)
                    have hjj : (j : Int) < (i : Int) := by omega
                    have HS := hide (any_snoc (f := fun q => !apB PK p q) hq)
                    have HQ := hide (validC_all HVC.out hq)
                    clear hq
                    have m0 := hm.cell_ 0 rfl
                    have m1 := hm.cell_ 1 rfl
                    have m2 := hm.cell_ 2 rfl
                    have m3 := hm.cell_ 3 rfl
                    have m4 := hm.cell_ 4 rfl
                    have q_m0 := (hm.alloc (.cells #[.int .u8 q.pc, .int .i64 q.x, .int .i64 q.y, .int .i64 q.w, .int .i64 q.h] 38)).cell_ 0 rfl
                    have q_m1 := (hm.alloc (.cells #[.int .u8 q.pc, .int .i64 q.x, .int .i64 q.y, .int .i64 q.w, .int .i64 q.h] 38)).cell_ 1 rfl
                    have q_m2 := (hm.alloc (.cells #[.int .u8 q.pc, .int .i64 q.x, .int .i64 q.y, .int .i64 q.w, .int .i64 q.h] 38)).cell_ 2 rfl
                    have q_m3 := (hm.alloc (.cells #[.int .u8 q.pc, .int .i64 q.x, .int .i64 q.y, .int .i64 q.w, .int .i64 q.h] 38)).cell_ 3 rfl
                    have q_m4 := (hm.alloc (.cells #[.int .u8 q.pc, .int .i64 q.x, .int .i64 q.y, .int .i64 q.w, .int .i64 q.h] 38)).cell_ 4 rfl
                    go_upto_region 17 with fail
                    clear q_m0 q_m1 q_m2 q_m3 q_m4
                    clear m0 m1 m2 m3 m4
                    have hn := Blk.new W 38 #[.int .u8 q.pc, .int .i64 q.x, .int .i64 q.y, .int .i64 q.w, .int .i64 q.h]
                    replace hm := hm.alloc (.cells #[.int .u8 q.pc, .int .i64 q.x, .int .i64 q.y, .int .i64 q.w, .int .i64 q.h] 38)
                    have hsz_bz : (W.alloc (.cells #[.int .u8 q.pc, .int .i64 q.x, .int .i64 q.y, .int .i64 q.w, .int .i64 q.h] 38)).heap.size = W.heap.size + 1 := by simp
                    have bzge := hB.size
                    replace hB := hB.alloc hB.size (.cells #[.int .u8 q.pc, .int .i64 q.x, .int .i64 q.y, .int .i64 q.w, .int .i64 q.h] 38)
                    generalize hbz : W.heap.size = bz at *
                    generalize W.alloc (.cells #[.int .u8 q.pc, .int .i64 q.x, .int .i64 q.y, .int .i64 q.w, .int .i64 q.h] 38) = W at *
                    clear hbz
                    have m0 := hm.cell_ 0 rfl
                    have m1 := hm.cell_ 1 rfl
                    have m2 := hm.cell_ 2 rfl
                    have m3 := hm.cell_ 3 rfl
                    have m4 := hm.cell_ 4 rfl
                    have n0 := hn.cell_ 0 rfl
                    have n1 := hn.cell_ 1 rfl
                    have n2 := hn.cell_ 2 rfl
                    have n3 := hn.cell_ 3 rfl
                    have n4 := hn.cell_ 4 rfl
                    clear d0 d1 d2 d3 d4
                    cases v
                    case true =>
                      have HJ2 : Hid ((clB PW PH PK (l.take i) || outB PW PH p || (l.take (j + 1)).any fun q => !apB PK p q) = true) := by show _ = _; rw [HS.out, ← Bool.or_assoc, HJ.out]; rfl
                      go_wp2_with fail
                      go_roundw
                      case rel => exact ⟨j + 1, true, rfl, by go_num, by omega, HJ2, hm, hB⟩
                      case measure => simp [intOf]; omega
                    case false =>
                      obtain ⟨u, hu⟩ : ∃ u, apB PK p q = u := ⟨_, rfl⟩
                      have HJ2 : Hid ((clB PW PH PK (l.take i) || outB PW PH p || (l.take (j + 1)).any fun q => !apB PK p q) = !u) := by show _ = _; rw [HS.out, ← Bool.or_assoc, HJ.out, hu]; rfl
                      have HU := hide hu
                      clear hu
                      go_wp2_with fail
                      refine (apart_is p q PK _ HP.out HQ.out HPK.out.k HU.out).mono ?_
                      rintro e W ⟨rfl, hb⟩
                      clear m0 m1 m2 m3 m4 n0 n1 n2 n3 n4
                      replace hm := hm.below hb hm.lt
                      replace hn := hn.below hb hn.lt
                      replace hB := hB.trans (hb.mono hB.size)
                      clear hb
                      have m0 := hm.cell_ 0 rfl
                      have m1 := hm.cell_ 1 rfl
                      have m2 := hm.cell_ 2 rfl
                      have m3 := hm.cell_ 3 rfl
                      have m4 := hm.cell_ 4 rfl
                      have n0 := hn.cell_ 0 rfl
                      have n1 := hn.cell_ 1 rfl
                      have n2 := hn.cell_ 2 rfl
                      have n3 := hn.cell_ 3 rfl
                      have n4 := hn.cell_ 4 rfl
                      go_wp2_with fail
                      go_roundw
                      case rel => exact ⟨j + 1, !u, rfl, by go_num, by omega, HJ2, hm, hB⟩
                      case measure => simp [intOf]; omega
                  · obtain rfl : j = i := by omega
                    have HF : Hid (clB PW PH PK (l.take (j + 1)) = v) := by show _ = _; rw [HSN.out]; exact HJ.out
                    have m0 := hm.cell_ 0 rfl
                    have m1 := hm.cell_ 1 rfl
                    have m2 := hm.cell_ 2 rfl
                    have m3 := hm.cell_ 3 rfl
                    have m4 := hm.cell_ 4 rfl
                    go_wp2_with fail
                    go_roundw
                    case rel => exact ⟨j + 1, v, rfl, by go_num, by omega, HF, hB⟩
                    case measure => simp [intOf]; omega
              · have HOB : Hid ((false || outB PW PH p) = false) := by show _ = _; unfold outB; rw [decide_eq_false o1, decide_eq_false o2]; rfl
                have HB1 : Hid ((clB PW PH PK (l.take i) || outB PW PH p || (l.take 0).any fun q => !apB PK p q) = false) := by show _ = _; rw [HCB.out, HOB.out]; simp
                clear HCB HOB
                go_wp2_with fail
                clear m0 m1 m2 m3 m4
                go_loopw [12, 75] (fun x y W => ∃ (j : Nat) (v : Bool), x = .bool v ∧ y = .int .i64 j ∧ j ≤ i ∧ Hid ((clB PW PH PK (l.take i) || outB PW PH p || (l.take j).any fun q => !apB PK p q) = v) ∧ Blk W bx 38 #[.int .u8 p.pc, .int .i64 p.x, .int .i64 p.y, .int .i64 p.w, .int .i64 p.h] ∧ Below w.heap.size w W) (fun x y _ => i - (intOf y).toNat)
                case atStart => exact ⟨0, false, rfl, rfl, Nat.zero_le _, HB1, hm, hB⟩
                case round =>
                  clear hm hB HB1
                  obtain ⟨W, rfl⟩ : ∃ W : World, W = wr := ⟨_, rfl⟩
                  obtain ⟨j, v, rfl, rfl, hj, HJ, hm, hB⟩ := hrel
                  by_cases hjl : j < i
                  · obtain ⟨q, hq, d0, d1, d2, d3, d4⟩ := pl_at2 (k := j) (hS.below hB) (by omega)
                    have hjj : (j : Int) < (i : Int) := by omega
                    have HS := hide (any_snoc (f := fun q => !apB PK p q) hq)
                    have HQ := hide (validC_all HVC.out hq)
                    clear hq
                    have m0 := hm.cell_ 0 rfl
                    have m1 := hm.cell_ 1 rfl
                    have m2 := hm.cell_ 2 rfl
                    have m3 := hm.cell_ 3 rfl
                    have m4 := hm.cell_ 4 rfl
                    have q_m0 := (hm.alloc (.cells #[.int .u8 q.pc, .int .i64 q.x, .int .i64 q.y, .int .i64 q.w, .int .i64 q.h] 38)).cell_ 0 rfl
                    have q_m1 := (hm.alloc (.cells #[.int .u8 q.pc, .int .i64 q.x, .int .i64 q.y, .int .i64 q.w, .int .i64 q.h] 38)).cell_ 1 rfl
                    have q_m2 := (hm.alloc (.cells #[.int .u8 q.pc, .int .i64 q.x, .int .i64 q.y, .int .i64 q.w, .int .i64 q.h] 38)).cell_ 2 rfl
                    have q_m3 := (hm.alloc (.cells #[.int .u8 q.pc, .int .i64 q.x, .int .i64 q.y, .int .i64 q.w, .int .i64 q.h] 38)).cell_ 3 rfl
                    have q_m4 := (hm.alloc (.cells #[.int .u8 q.pc, .int .i64 q.x, .int .i64 q.y, .int .i64 q.w, .int .i64 q.h] 38)).cell_ 4 rfl
                    go_upto_region 17 with fail
                    clear q_m0 q_m1 q_m2 q_m3 q_m4
                    clear m0 m1 m2 m3 m4
                    have hn := Blk.new W 38 #[.int .u8 q.pc, .int .i64 q.x, .int .i64 q.y, .int .i64 q.w, .int .i64 q.h]
                    replace hm := hm.alloc (.cells #[.int .u8 q.pc, .int .i64 q.x, .int .i64 q.y, .int .i64 q.w, .int .i64 q.h] 38)
                    have hsz_bz : (W.alloc (.cells #[.int .u8 q.pc, .int .i64 q.x, .int .i64 q.y, .int .i64 q.w, .int .i64 q.h] 38)).heap.size = W.heap.size + 1 := by simp
                    have bzge := hB.size
                    replace hB := hB.alloc hB.size (.cells #[.int .u8 q.pc, .int .i64 q.x, .int .i64 q.y, .int .i64 q.w, .int .i64 q.h] 38)
                    generalize hbz : W.heap.size = bz at *
                    generalize W.alloc (.cells #[.int .u8 q.pc, .int .i64 q.x, .int .i64 q.y, .int .i64 q.w, .int .i64 q.h] 38) = W at *
                    clear hbz
                    have m0 := hm.cell_ 0 rfl
                    have m1 := hm.cell_ 1 rfl
                    have m2 := hm.cell_ 2 rfl
                    have m3 := hm.cell_ 3 rfl
                    have m4 := hm.cell_ 4 rfl
                    have n0 := hn.cell_ 0 rfl
                    have n1 := hn.cell_ 1 rfl
                    have n2 := hn.cell_ 2 rfl
                    have n3 := hn.cell_ 3 rfl
                    have n4 := hn.cell_ 4 rfl
                    clear d0 d1 d2 d3 d4
                    cases v
                    case true =>
                      have HJ2 : Hid ((clB PW PH PK (l.take i) || outB PW PH p || (l.take (j + 1)).any fun q => !apB PK p q) = true) := by show _ = _; rw [HS.out, ← Bool.or_assoc, HJ.out]; rfl
                      go_wp2_with fail
                      go_roundw
                      case rel => exact ⟨j + 1, true, rfl, by go_num, by omega, HJ2, hm, hB⟩
                      case measure => simp [intOf]; omega
                    case false =>
                      obtain ⟨u, hu⟩ : ∃ u, apB PK p q = u := ⟨_, rfl⟩
                      have HJ2 : Hid ((clB PW PH PK (l.take i) || outB PW PH p || (l.take (j + 1)).any fun q => !apB PK p q) = !u) := by show _ = _; rw [HS.out, ← Bool.or_assoc, HJ.out, hu]; rfl
                      have HU := hide hu
                      clear hu
                      go_wp2_with fail
                      refine (apart_is p q PK _ HP.out HQ.out HPK.out.k HU.out).mono ?_
                      rintro e W ⟨rfl, hb⟩
                      clear m0 m1 m2 m3 m4 n0 n1 n2 n3 n4
                      replace hm := hm.below hb hm.lt
                      replace hn := hn.below hb hn.lt
                      replace hB := hB.trans (hb.mono hB.size)
                      clear hb
                      have m0 := hm.cell_ 0 rfl
                      have m1 := hm.cell_ 1 rfl
                      have m2 := hm.cell_ 2 rfl
                      have m3 := hm.cell_ 3 rfl
                      have m4 := hm.cell_ 4 rfl
                      have n0 := hn.cell_ 0 rfl
                      have n1 := hn.cell_ 1 rfl
                      have n2 := hn.cell_ 2 rfl
                      have n3 := hn.cell_ 3 rfl
                      have n4 := hn.cell_ 4 rfl
                      go_wp2_with fail
                      go_roundw
                      case rel => exact ⟨j + 1, !u, rfl, by go_num, by omega, HJ2, hm, hB⟩
                      case measure => simp [intOf]; omega
                  · obtain rfl : j = i := by omega
                    have HF : Hid (clB PW PH PK (l.take (j + 1)) = v) := by show _ = _; rw [HSN.out]; exact HJ.out
                    have m0 := hm.cell_ 0 rfl
                    have m1 := hm.cell_ 1 rfl
                    have m2 := hm.cell_ 2 rfl
                    have m3 := hm.cell_ 3 rfl
                    have m4 := hm.cell_ 4 rfl
                    go_wp2_with fail
                    go_roundw
                    case rel => exact ⟨j + 1, v, rfl, by go_num, by omega, HF, hB⟩
                    case measure => simp [intOf]; omega
          · obtain rfl : i = l.length := by omega
            have HF : Hid (clB PW PH PK l = v) := by show _ = _; rw [← HCB.out, List.take_length]
            go_wp2_with fail
            go_ret2
            exact ⟨by rw [HE2.out.1, HE2.out.2, HF.out]; rfl, hB⟩
  exact G w (Below.refl _ _)
end Go.Proofs.YtecaaimaeaocbaaDoor
