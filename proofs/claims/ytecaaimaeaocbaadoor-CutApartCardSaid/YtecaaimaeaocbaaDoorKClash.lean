/- validPlace, apart, plate, Clash of both texts: the walks. -/
import Derived.Test.YtecaaimaeaocbaaDoorKValid
import Derived.Test.YtecaaimaeaocbaaDoorKClashP
import Derived.Test.YtecaaimaeaocbaaDoorApp
namespace Go.Proofs.YtecaaimaeaocbaaDoor
open Go Go.RowKit
theorem et_place : ElemT Tryd.prog 35 38 5 := elemT_mk Tryd.underlying35 (z := .agg #[.int .u8 0, .int .i64 0, .int .i64 0, .int .i64 0, .int .i64 0]) (bytes := 40) (by kernel_rfl) rfl (by omega) (by omega)
theorem slice_to (b off n c k : Nat) (hk : k ≤ c) (w : World) :
    (Instr.sliceAt 35 (.slice (some ⟨b, off, none⟩) n c) none (some (.int .i64 k)) none).run Tryd.prog w = .ok (.slice (some ⟨b, off, none⟩) k c) w := by
  obtain ⟨i, z, bytes, ht, hi, hz, hsize, _⟩ := et_place
  have hel : Tryd.prog.elem 35 = 38 := by simp [Program.elem, ht]
  rw [← hel] at ht hi
  rw [run_sliceAt_slice _ _ _ _ _ _ ht, run_slice_h _ _ _ _ _ ht _ _ (by omega) (by omega)]
  have hso : (sizeOf (Tryd.prog.elem 35)).run Tryd.prog w = .ok 5 w := by kernel_rfl
  rw [hso]
  simp [Result.andThen, sliced, Addr.add]
theorem slice_to' (b off n c k : Nat) (hk : k ≤ c) (w : World) :
    (Instr.slice 35 (.slice (some ⟨b, off, none⟩) n c) none (some (.int .i64 k)) none).run Tryd.prog w = .ok (.slice (some ⟨b, off, none⟩) k c) w := by
  have ht := Tryd.underlying35
  have hel : Tryd.prog.elem 35 = 38 := by simp [Program.elem, ht]
  rw [← hel] at ht
  rw [← slice_to b off n c k hk w, run_sliceAt_slice _ _ _ _ _ _ ht]
set_option maxRecDepth 100000 in
theorem plIn_any (p : Pl) (w : World) :
    Calls Tryd.prog 62 #[.agg #[.int .u8 p.pc, .int .i64 p.x, .int .i64 p.y, .int .i64 p.w, .int .i64 p.h]] w fun e w' => e = .returned (.bool (plIn p)) ∧ Below w.heap.size w w' := by
  have HD : Hid (plIn p = (inB 1 p.w 1000 && inB 1 p.h 1000 && inB 0 p.x 1000 && inB 0 p.y 1000)) := rfl
  have hk := Blk.new w 38 #[.int .u8 p.pc, .int .i64 p.x, .int .i64 p.y, .int .i64 p.w, .int .i64 p.h]
  have hB := (Below.refl w.heap.size w).alloc (Nat.le_refl _) (.cells #[.int .u8 p.pc, .int .i64 p.x, .int .i64 p.y, .int .i64 p.w, .int .i64 p.h] 38)
  go_enter Tryd.func62, Tryd.ntmps62
  go_upto_region 1 with fail
  generalize w.alloc (.cells #[.int .u8 p.pc, .int .i64 p.x, .int .i64 p.y, .int .i64 p.w, .int .i64 p.h] 38) = W at *
  have c0 := hk.cell_ 0 rfl
  have c1 := hk.cell_ 1 rfl
  have c2 := hk.cell_ 2 rfl
  have c3 := hk.cell_ 3 rfl
  have c4 := hk.cell_ 4 rfl
  cases q1 : inB 1 p.w 1000
  case false =>
    have HV : Hid (plIn p = false) := by show _ = _; rw [HD.out, q1]; rfl
    go_wp2_with fail
    refine (kwithin_is 1 p.w 1000 _ q1).mono ?_
    rintro e W' ⟨rfl, rfl⟩
    clear q1
    go_wp2_with fail
    go_ret
    exact ⟨ret_bool HV.out.symm, hB⟩
  cases q2 : inB 1 p.h 1000
  case false =>
    have HV : Hid (plIn p = false) := by show _ = _; rw [HD.out, q1, q2]; rfl
    go_wp2_with fail
    refine (kwithin_is 1 p.w 1000 _ q1).mono ?_
    rintro e W' ⟨rfl, rfl⟩
    clear q1
    go_wp2_with fail
    refine (kwithin_is 1 p.h 1000 _ q2).mono ?_
    rintro e W' ⟨rfl, rfl⟩
    clear q2
    go_wp2_with fail
    go_ret
    exact ⟨ret_bool HV.out.symm, hB⟩
  cases q3 : inB 0 p.x 1000
  case false =>
    have HV : Hid (plIn p = false) := by show _ = _; rw [HD.out, q1, q2, q3]; rfl
    go_wp2_with fail
    refine (kwithin_is 1 p.w 1000 _ q1).mono ?_
    rintro e W' ⟨rfl, rfl⟩
    clear q1
    go_wp2_with fail
    refine (kwithin_is 1 p.h 1000 _ q2).mono ?_
    rintro e W' ⟨rfl, rfl⟩
    clear q2
    go_wp2_with fail
    refine (kwithin_is 0 p.x 1000 _ q3).mono ?_
    rintro e W' ⟨rfl, rfl⟩
    clear q3
    go_wp2_with fail
    go_ret
    exact ⟨ret_bool HV.out.symm, hB⟩
  obtain ⟨v4, q4⟩ : ∃ v, inB 0 p.y 1000 = v := ⟨_, rfl⟩
  have HV : Hid (plIn p = v4) := by show _ = _; rw [HD.out, q1, q2, q3, q4]; rfl
  go_wp2_with fail
  refine (kwithin_is 1 p.w 1000 _ q1).mono ?_
  rintro e W' ⟨rfl, rfl⟩
  clear q1
  go_wp2_with fail
  refine (kwithin_is 1 p.h 1000 _ q2).mono ?_
  rintro e W' ⟨rfl, rfl⟩
  clear q2
  go_wp2_with fail
  refine (kwithin_is 0 p.x 1000 _ q3).mono ?_
  rintro e W' ⟨rfl, rfl⟩
  clear q3
  go_wp2_with fail
  refine (kwithin_is 0 p.y 1000 _ q4).mono ?_
  rintro e W' ⟨rfl, rfl⟩
  clear q4
  go_wp2_with fail
  go_ret
  exact ⟨ret_bool HV.out.symm, hB⟩
theorem plIn_is (p : Pl) (w : World) {v : Bool} (h : plIn p = v) :
    Calls Tryd.prog 62 #[.agg #[.int .u8 p.pc, .int .i64 p.x, .int .i64 p.y, .int .i64 p.w, .int .i64 p.h]] w fun e w' => e = .returned (.bool v) ∧ Below w.heap.size w w' := by
  subst h; exact plIn_any p w
set_option maxRecDepth 100000 in
set_option maxHeartbeats 1000000 in
theorem apart_any (p q : Pl) (K : Int) (w : World) (hp : PIn p) (hq : PIn q) (hK : 0 ≤ K ∧ K ≤ 20) :
    Calls Tryd.prog 63 #[.agg #[.int .u8 p.pc, .int .i64 p.x, .int .i64 p.y, .int .i64 p.w, .int .i64 p.h], .agg #[.int .u8 q.pc, .int .i64 q.x, .int .i64 q.y, .int .i64 q.w, .int .i64 q.h], .int .i64 K] w fun e w' => e = .returned (.bool (apB K p q)) ∧ Below w.heap.size w w' := by
  have HD : Hid (apB K p q = (decide (p.x + p.w + K ≤ q.x) || decide (q.x + q.w + K ≤ p.x) || decide (p.y + p.h + K ≤ q.y) || decide (q.y + q.h + K ≤ p.y))) := rfl
  obtain ⟨p1, p2, p3, p4⟩ := hp
  obtain ⟨q1, q2, q3, q4⟩ := hq
  have hz : (w.alloc (.cells #[.int .u8 p.pc, .int .i64 p.x, .int .i64 p.y, .int .i64 p.w, .int .i64 p.h] 38)).heap.size = w.heap.size + 1 := by simp
  have hk := (Blk.new w 38 #[.int .u8 p.pc, .int .i64 p.x, .int .i64 p.y, .int .i64 p.w, .int .i64 p.h]).alloc (.cells #[.int .u8 q.pc, .int .i64 q.x, .int .i64 q.y, .int .i64 q.w, .int .i64 q.h] 38)
  have hm := Blk.new (w.alloc (.cells #[.int .u8 p.pc, .int .i64 p.x, .int .i64 p.y, .int .i64 p.w, .int .i64 p.h] 38)) 38 #[.int .u8 q.pc, .int .i64 q.x, .int .i64 q.y, .int .i64 q.w, .int .i64 q.h]
  rw [hz] at hm
  have hB := ((Below.refl w.heap.size w).alloc (Nat.le_refl _) (.cells #[.int .u8 p.pc, .int .i64 p.x, .int .i64 p.y, .int .i64 p.w, .int .i64 p.h] 38)).alloc (by omega) (.cells #[.int .u8 q.pc, .int .i64 q.x, .int .i64 q.y, .int .i64 q.w, .int .i64 q.h] 38)
  clear hz
  go_enter Tryd.func63, Tryd.ntmps63
  go_upto_region 1 with fail
  generalize (w.alloc (.cells #[.int .u8 p.pc, .int .i64 p.x, .int .i64 p.y, .int .i64 p.w, .int .i64 p.h] 38)).alloc (.cells #[.int .u8 q.pc, .int .i64 q.x, .int .i64 q.y, .int .i64 q.w, .int .i64 q.h] 38) = W at *
  have c0 := hk.cell_ 0 rfl
  have c1 := hk.cell_ 1 rfl
  have c2 := hk.cell_ 2 rfl
  have c3 := hk.cell_ 3 rfl
  have c4 := hk.cell_ 4 rfl
  have m0 := hm.cell_ 0 rfl
  have m1 := hm.cell_ 1 rfl
  have m2 := hm.cell_ 2 rfl
  have m3 := hm.cell_ 3 rfl
  have m4 := hm.cell_ 4 rfl
  by_cases x1 : p.x + p.w + K ≤ q.x
  · have HV : Hid (apB K p q = true) := by show _ = _; rw [HD.out, decide_eq_true x1]; rfl
    go_wp2_with fail
    go_ret
    exact ⟨ret_bool HV.out.symm, hB⟩
  by_cases x2 : q.x + q.w + K ≤ p.x
  · have HV : Hid (apB K p q = true) := by show _ = _; rw [HD.out, decide_eq_true x2]; simp
    go_wp2_with fail
    go_ret
    exact ⟨ret_bool HV.out.symm, hB⟩
  by_cases x3 : p.y + p.h + K ≤ q.y
  · have HV : Hid (apB K p q = true) := by show _ = _; rw [HD.out, decide_eq_true x3]; simp
    go_wp2_with fail
    go_ret
    exact ⟨ret_bool HV.out.symm, hB⟩
  have HV : Hid (apB K p q = decide (q.y + q.h + K ≤ p.y)) := by show _ = _; rw [HD.out, decide_eq_false x1, decide_eq_false x2, decide_eq_false x3]; rfl
  by_cases x4 : q.y + q.h + K ≤ p.y
  · rw [decide_eq_true x4] at HV
    go_wp2_with fail
    go_ret
    exact ⟨ret_bool HV.out.symm, hB⟩
  · rw [decide_eq_false x4] at HV
    go_wp2_with fail
    go_ret
    exact ⟨ret_bool HV.out.symm, hB⟩
theorem apart_is (p q : Pl) (K : Int) (w : World) (hp : PIn p) (hq : PIn q) (hK : 0 ≤ K ∧ K ≤ 20) {v : Bool} (h : apB K p q = v) :
    Calls Tryd.prog 63 #[.agg #[.int .u8 p.pc, .int .i64 p.x, .int .i64 p.y, .int .i64 p.w, .int .i64 p.h], .agg #[.int .u8 q.pc, .int .i64 q.x, .int .i64 q.y, .int .i64 q.w, .int .i64 q.h], .int .i64 K] w fun e w' => e = .returned (.bool v) ∧ Below w.heap.size w w' := by
  subst h; exact apart_any p q K w hp hq hK
theorem plate_any (PW PH PK : Int) (w : World) :
    Calls Tryd.prog 64 #[.int .i64 PW, .int .i64 PH, .int .i64 PK] w fun e w' => e = .returned (.bool (plateOk PW PH PK)) ∧ w = w' := by
  have HD : Hid (plateOk PW PH PK = (inB 1 PW 1000 && inB 1 PH 1000 && inB 0 PK 20)) := rfl
  go_enter Tryd.func64, Tryd.ntmps64
  cases q1 : inB 1 PW 1000
  case false =>
    go_wp2_with fail
    refine (kfrom_is 1 PW 1000 _ q1).mono ?_
    rintro e w' ⟨rfl, rfl⟩
    go_wp2_with fail
    go_ret
    exact ⟨ret_bool (by rw [HD.out, q1]; rfl), rfl⟩
  go_wp2_with fail
  refine (kfrom_is 1 PW 1000 _ q1).mono ?_
  rintro e w' ⟨rfl, rfl⟩
  cases q2 : inB 1 PH 1000
  case false =>
    go_wp2_with fail
    refine (kfrom_is 1 PH 1000 _ q2).mono ?_
    rintro e w' ⟨rfl, rfl⟩
    go_wp2_with fail
    go_ret
    exact ⟨ret_bool (by rw [HD.out, q1, q2]; rfl), rfl⟩
  go_wp2_with fail
  refine (kfrom_is 1 PH 1000 _ q2).mono ?_
  rintro e w' ⟨rfl, rfl⟩
  go_wp2_with fail
  refine (kfrom_any 0 PK 20 _).mono ?_
  rintro e w' ⟨rfl, rfl⟩
  go_wp2_with fail
  go_ret
  exact ⟨ret_bool (by rw [HD.out, q1, q2]; rfl), rfl⟩
theorem plate_is (PW PH PK : Int) (w : World) {v : Bool} (h : plateOk PW PH PK = v) :
    Calls Tryd.prog 64 #[.int .i64 PW, .int .i64 PH, .int .i64 PK] w fun e w' => e = .returned (.bool v) ∧ w = w' := by
  subst h; exact plate_any PW PH PK w
end Go.Proofs.YtecaaimaeaocbaaDoor
