/- Due of both texts: the walks. -/
import Derived.Test.YtfhlopegmfdkpaaNDue4
import Derived.Test.YtfhlopegmfdkpaaNDueP
namespace Go.Proofs.Ytfhlopegmfdkpaa
open Go Go.RowKit
theorem lastM_at {w : World} {B : Nat} {A : Option Addr} {ms : List Ms} {m : Nat} (h : Slc Ms.enc 2 w B A ms) (hm : ms.length = m + 1) :
    ∃ b off, A = some ⟨b, off, none⟩ ∧ b < B ∧ w.cell? ⟨b, off + m * 2, none⟩ = some (.int .i64 (lastM ms).day) ∧ w.cell? ⟨b, off + m * 2 + 1, none⟩ = some (.int .i64 (lastM ms).r) := by
  obtain ⟨n, b, off, hx, hA, hb, d0, d1⟩ := ms_at h (show m < ms.length by omega)
  have e : lastM ms = n := by
    unfold lastM
    rw [List.getD_eq_getElem?_getD, show ms.length - 1 = m by omega, hx]; rfl
  rw [e]
  exact ⟨b, off, hA, hb, d0, d1⟩
theorem lastM_mem {ms : List Ms} {m : Nat} (hm : ms.length = m + 1) : lastM ms ∈ ms := by
  unfold lastM
  rw [List.getD_eq_getElem?_getD, show ms.length - 1 = m by omega, List.getElem?_eq_getElem (show m < ms.length by omega)]
  exact List.getElem_mem _
def DuePost (k0 k1 k2 k3 side : Int) (ms : List Ms) (least : Int) (w : World) (e : Ending) (w' : World) : Prop :=
  ∃ d b r, e = .returned (.tuple #[.int .i64 d, .bool b, .int .i64 r]) ∧ DueIs k0 k1 k2 k3 side ms least d b r ∧ Below w.heap.size w w'
set_option maxRecDepth 100000 in
set_option maxHeartbeats 4000000 in
theorem due_any (k0 k1 k2 k3 side : Int) (A : Option Addr) (c : Nat) (ms : List Ms) (least : Int) (w : World) (hS : Slc Ms.enc 2 w w.heap.size A ms) (hl : ms.length ≤ 1000) :
    Calls Try.prog 64 #[.agg #[.int .i64 k0, .int .i64 k1, .int .i64 k2, .int .i64 k3], .int .i64 side, .slice A ms.length c, .int .i64 least] w (DuePost k0 k1 k2 k3 side ms least w) := by
  have hk := Blk.new w 60 #[.int .i64 k0, .int .i64 k1, .int .i64 k2, .int .i64 k3]
  have hB := (Below.refl w.heap.size w).alloc (Nat.le_refl _) (.cells #[.int .i64 k0, .int .i64 k1, .int .i64 k2, .int .i64 k3] 60)
  go_enter Try.func64, Try.ntmps64
  go_upto_region 1 with fail
  generalize w.alloc (.cells #[.int .i64 k0, .int .i64 k1, .int .i64 k2, .int .i64 k3] 60) = W at *
  have c0 := hk.cell_ 0 rfl
  have c1 := hk.cell_ 1 rfl
  have c2 := hk.cell_ 2 rfl
  have c3 := hk.cell_ 3 rfl
  go_wp2_with fail
  refine (measured_any k0 k1 k2 k3 side A c ms _ ((hS.below hB).more hB.size) hl).mono ?_
  rintro e W ⟨rfl, hb⟩
  clear c0 c1 c2 c3
  replace hk := hk.below hb hk.lt
  replace hB := hB.trans (hb.mono hB.size)
  clear hb
  have c0 := hk.cell_ 0 rfl
  have c1 := hk.cell_ 1 rfl
  have c2 := hk.cell_ 2 rfl
  have c3 := hk.cell_ 3 rfl
  cases hm : measB k0 k1 k2 k3 side ms
  case false =>
    have HV := due_bad (least := least) (show (measB k0 k1 k2 k3 side ms && inB 0 least 100000) = false by rw [hm]; rfl)
    clear hm
    go_wp2_with fail
    go_ret3
    exact ⟨0, false, 2, rfl, HV, hB⟩
  have HM := hide hm
  clear hm
  cases hls : inB 0 least 100000
  case false =>
    have HV := due_bad (show (measB k0 k1 k2 k3 side ms && inB 0 least 100000) = false by rw [HM.out, hls]; rfl)
    go_wp2_with fail
    refine (lwithin_is 0 least 100000 _ hls).mono ?_
    rintro e w' ⟨rfl, rfl⟩
    clear hls
    go_wp2_with fail
    go_ret3
    exact ⟨0, false, 2, rfl, HV, hB⟩
  have HOK : Hid ((measB k0 k1 k2 k3 side ms && inB 0 least 100000) = true) := by show _ = _; rw [HM.out, hls]; rfl
  go_wp2_with fail
  refine (lwithin_is 0 least 100000 _ hls).mono ?_
  rintro e w' ⟨rfl, rfl⟩
  clear hls
  obtain ⟨hsd, hln, hks, hms⟩ := meas_facts HM.out
  obtain ⟨m, hm⟩ : ∃ m, ms.length = m + 1 := ⟨ms.length - 1, by omega⟩
  obtain ⟨b, off, hA, _, d0, d1⟩ := lastM_at ((hS.below hB).more hB.size) hm
  obtain ⟨hx0, hx1⟩ := hms _ (lastM_mem hm)
  obtain ⟨x, hx⟩ : ∃ x, x = lastM ms := ⟨_, rfl⟩
  rw [← hx] at d0 d1 hx0 hx1
  rw [hm]
  have hm50 : m ≤ 50 := by omega
  have e7 : IntKind.i64.wrap (m : Int) = m := IntWalk.i64_in _ (by omega)
  have HXL := hide hx
  subst hA
  clear hx hm hms hln
  have q_c0 := (hk.alloc (.cells #[.int .i64 x.day, .int .i64 x.r] 93)).cell_ 0 rfl
  have q_c1 := (hk.alloc (.cells #[.int .i64 x.day, .int .i64 x.r] 93)).cell_ 1 rfl
  have q_c2 := (hk.alloc (.cells #[.int .i64 x.day, .int .i64 x.r] 93)).cell_ 2 rfl
  have q_c3 := (hk.alloc (.cells #[.int .i64 x.day, .int .i64 x.r] 93)).cell_ 3 rfl
  go_wp2_with fail
  clear q_c0 q_c1 q_c2 q_c3
  clear c0 c1 c2 c3
  have hm := Blk.new W 93 #[.int .i64 x.day, .int .i64 x.r]
  replace hk := hk.alloc (.cells #[.int .i64 x.day, .int .i64 x.r] 93)
  have hsz_bx : (W.alloc (.cells #[.int .i64 x.day, .int .i64 x.r] 93)).heap.size = W.heap.size + 1 := by simp
  have bxge := hB.size
  replace hB := hB.alloc hB.size (.cells #[.int .i64 x.day, .int .i64 x.r] 93)
  generalize hbx : W.heap.size = bx at *
  generalize W.alloc (.cells #[.int .i64 x.day, .int .i64 x.r] 93) = W at *
  clear hbx
  have c0 := hk.cell_ 0 rfl
  have c1 := hk.cell_ 1 rfl
  have c2 := hk.cell_ 2 rfl
  have c3 := hk.cell_ 3 rfl
  have m0 := hm.cell_ 0 rfl
  have m1 := hm.cell_ 1 rfl
  clear d0 d1
  obtain ⟨s, rfl⟩ : ∃ s : Nat, side = s := ⟨side.toNat, by omega⟩
  obtain ⟨K, hK, hK1, cK⟩ : ∃ K, keepOf k0 k1 k2 k3 s = K ∧ (0 ≤ K ∧ K ≤ 1000) ∧ W.cell? ⟨w.heap.size, s, none⟩ = some (.int .i64 K) := by
    obtain rfl | rfl | rfl | rfl : s = 0 ∨ s = 1 ∨ s = 2 ∨ s = 3 := by omega
    · exact ⟨k0, rfl, hks.1, hk.cell_ 0 rfl⟩
    · exact ⟨k1, rfl, hks.2.1, hk.cell_ 1 rfl⟩
    · exact ⟨k2, rfl, hks.2.2.1, hk.cell_ 2 rfl⟩
    · exact ⟨k3, rfl, hks.2.2.2, hk.cell_ 3 rfl⟩
  have hs4 : s < 4 := by omega
  have hs4' : (s : Int) < 4 := by omega
  have HO : Hid (dueO k0 k1 k2 k3 s ms least = dueF K least 300 x.day x.r) := by show _ = _; unfold dueO; rw [hK, ← HXL.out]
  clear hK hks hsd c0 c1 c2 c3
  go_wp2_with fail
  go_loopw [12, 13] (fun y z W' => ∃ (n : Nat) (day r : Int), y = .int .i64 r ∧ z = .int .i64 day ∧ (0 ≤ r ∧ r ≤ 100000) ∧ (0 ≤ day ∧ day ≤ 100365) ∧ 100000 < day + 365 * (n : Int) ∧ Hid (dueO k0 k1 k2 k3 s ms least = dueF K least n day r) ∧ W = W') (fun _ z _ => (100366 - intOf z).toNat)
  case atStart => exact ⟨300, _, _, rfl, rfl, hx1, by omega, by omega, HO, rfl⟩
  case round =>
    obtain ⟨n, day, r, rfl, rfl, hr, hd, hn, HD, rfl⟩ := hrel
    clear HO m0 m1
    by_cases hdl : day ≤ 100000
    · obtain ⟨n, rfl⟩ : ∃ n', n = n' + 1 := ⟨n - 1, by omega⟩
      by_cases hrl : r < least
      · have HV := due_ok HOK.out (HD.out.trans (dueF_yes hdl hrl))
        go_wp2_with fail
        go_ret3
        exact ⟨_, _, _, rfl, HV, hB⟩
      · have HD2 : Hid (dueO k0 k1 k2 k3 s ms least = dueF K least n (day + 365) (r * K / 1000)) := HD.out.trans (dueF_step hdl hrl)
        obtain ⟨b0, b1, b2, b3⟩ := aged_bound hr hK1
        have e1 : IntKind.i64.wrap (r * K) = r * K := IntWalk.i64_in _ (by omega)
        have e2 : (r * K).tdiv 1000 = r * K / 1000 := Int.tdiv_eq_ediv_of_nonneg b0
        have e3 : IntKind.i64.wrap (r * K / 1000) = r * K / 1000 := IntWalk.i64_in _ (by omega)
        clear HD
        go_wp2_with fail
        (refine (aged1_any r K _ hr hK1).mono ?_; rintro e w' ⟨rfl, rfl⟩; go_wp2_with fail)
        go_roundw
        case rel => exact ⟨n, _, _, rfl, by go_num, ⟨b2, b3⟩, by omega, by omega, HD2, by first | rfl | trivial⟩
        case measure => simp [intOf]; omega
    · have HV := due_ok HOK.out (HD.out.trans (dueF_stop (by omega)))
      go_wp2_with fail
      go_ret3
      exact ⟨_, _, _, rfl, HV, hB⟩
set_option maxRecDepth 100000 in
set_option maxHeartbeats 4000000 in
theorem refDue_any (k0 k1 k2 k3 side : Int) (A : Option Addr) (c : Nat) (ms : List Ms) (least : Int) (w : World) (hS : Slc Ms.enc 2 w w.heap.size A ms) (hl : ms.length ≤ 1000) :
    Calls Try.prog 65 #[.agg #[.int .i64 k0, .int .i64 k1, .int .i64 k2, .int .i64 k3], .int .i64 side, .slice A ms.length c, .int .i64 least] w (DuePost k0 k1 k2 k3 side ms least w) := by
  have hk := Blk.new w 60 #[.int .i64 k0, .int .i64 k1, .int .i64 k2, .int .i64 k3]
  have hB := (Below.refl w.heap.size w).alloc (Nat.le_refl _) (.cells #[.int .i64 k0, .int .i64 k1, .int .i64 k2, .int .i64 k3] 60)
  go_enter Try.func65, Try.ntmps65
  go_upto_region 1 with fail
  generalize w.alloc (.cells #[.int .i64 k0, .int .i64 k1, .int .i64 k2, .int .i64 k3] 60) = W at *
  have c0 := hk.cell_ 0 rfl
  have c1 := hk.cell_ 1 rfl
  have c2 := hk.cell_ 2 rfl
  have c3 := hk.cell_ 3 rfl
  go_wp2_with fail
  refine (refMeasures_any k0 k1 k2 k3 side A c ms _ ((hS.below hB).more hB.size) hl).mono ?_
  rintro e W ⟨rfl, hb⟩
  clear c0 c1 c2 c3
  replace hk := hk.below hb hk.lt
  replace hB := hB.trans (hb.mono hB.size)
  clear hb
  have c0 := hk.cell_ 0 rfl
  have c1 := hk.cell_ 1 rfl
  have c2 := hk.cell_ 2 rfl
  have c3 := hk.cell_ 3 rfl
  cases hm : measB k0 k1 k2 k3 side ms
  case false =>
    have HV := due_bad (least := least) (show (measB k0 k1 k2 k3 side ms && inB 0 least 100000) = false by rw [hm]; rfl)
    clear hm
    go_wp2_with fail
    go_ret3
    exact ⟨0, false, 2, rfl, HV, hB⟩
  have HM := hide hm
  clear hm
  cases hls : inB 0 least 100000
  case false =>
    have HV := due_bad (show (measB k0 k1 k2 k3 side ms && inB 0 least 100000) = false by rw [HM.out, hls]; rfl)
    go_wp2_with fail
    refine (rwithin_is 0 least 100000 _ hls).mono ?_
    rintro e w' ⟨rfl, rfl⟩
    clear hls
    go_wp2_with fail
    go_ret3
    exact ⟨0, false, 2, rfl, HV, hB⟩
  have HOK : Hid ((measB k0 k1 k2 k3 side ms && inB 0 least 100000) = true) := by show _ = _; rw [HM.out, hls]; rfl
  go_wp2_with fail
  refine (rwithin_is 0 least 100000 _ hls).mono ?_
  rintro e w' ⟨rfl, rfl⟩
  clear hls
  obtain ⟨hsd, hln, hks, hms⟩ := meas_facts HM.out
  obtain ⟨m, hm⟩ : ∃ m, ms.length = m + 1 := ⟨ms.length - 1, by omega⟩
  obtain ⟨b, off, hA, _, d0, d1⟩ := lastM_at ((hS.below hB).more hB.size) hm
  obtain ⟨hx0, hx1⟩ := hms _ (lastM_mem hm)
  obtain ⟨x, hx⟩ : ∃ x, x = lastM ms := ⟨_, rfl⟩
  rw [← hx] at d0 d1 hx0 hx1
  rw [hm]
  have hm50 : m ≤ 50 := by omega
  have e7 : IntKind.i64.wrap (m : Int) = m := IntWalk.i64_in _ (by omega)
  have HXL := hide hx
  subst hA
  clear hx hm hms hln
  have q_c0 := (hk.alloc (.cells #[.int .i64 x.day, .int .i64 x.r] 93)).cell_ 0 rfl
  have q_c1 := (hk.alloc (.cells #[.int .i64 x.day, .int .i64 x.r] 93)).cell_ 1 rfl
  have q_c2 := (hk.alloc (.cells #[.int .i64 x.day, .int .i64 x.r] 93)).cell_ 2 rfl
  have q_c3 := (hk.alloc (.cells #[.int .i64 x.day, .int .i64 x.r] 93)).cell_ 3 rfl
  go_wp2_with fail
  clear q_c0 q_c1 q_c2 q_c3
  clear c0 c1 c2 c3
  have hm := Blk.new W 93 #[.int .i64 x.day, .int .i64 x.r]
  replace hk := hk.alloc (.cells #[.int .i64 x.day, .int .i64 x.r] 93)
  have hsz_bx : (W.alloc (.cells #[.int .i64 x.day, .int .i64 x.r] 93)).heap.size = W.heap.size + 1 := by simp
  have bxge := hB.size
  replace hB := hB.alloc hB.size (.cells #[.int .i64 x.day, .int .i64 x.r] 93)
  generalize hbx : W.heap.size = bx at *
  generalize W.alloc (.cells #[.int .i64 x.day, .int .i64 x.r] 93) = W at *
  clear hbx
  have c0 := hk.cell_ 0 rfl
  have c1 := hk.cell_ 1 rfl
  have c2 := hk.cell_ 2 rfl
  have c3 := hk.cell_ 3 rfl
  have m0 := hm.cell_ 0 rfl
  have m1 := hm.cell_ 1 rfl
  clear d0 d1
  obtain ⟨s, rfl⟩ : ∃ s : Nat, side = s := ⟨side.toNat, by omega⟩
  obtain ⟨K, hK, hK1, cK⟩ : ∃ K, keepOf k0 k1 k2 k3 s = K ∧ (0 ≤ K ∧ K ≤ 1000) ∧ W.cell? ⟨w.heap.size, s, none⟩ = some (.int .i64 K) := by
    obtain rfl | rfl | rfl | rfl : s = 0 ∨ s = 1 ∨ s = 2 ∨ s = 3 := by omega
    · exact ⟨k0, rfl, hks.1, hk.cell_ 0 rfl⟩
    · exact ⟨k1, rfl, hks.2.1, hk.cell_ 1 rfl⟩
    · exact ⟨k2, rfl, hks.2.2.1, hk.cell_ 2 rfl⟩
    · exact ⟨k3, rfl, hks.2.2.2, hk.cell_ 3 rfl⟩
  have hs4 : s < 4 := by omega
  have hs4' : (s : Int) < 4 := by omega
  have HO : Hid (dueO k0 k1 k2 k3 s ms least = dueF K least 300 x.day x.r) := by show _ = _; unfold dueO; rw [hK, ← HXL.out]
  clear hK hks hsd c0 c1 c2 c3
  go_wp2_with fail
  go_loopw [12, 13] (fun y z W' => ∃ (n : Nat) (day r : Int), y = .int .i64 r ∧ z = .int .i64 day ∧ (0 ≤ r ∧ r ≤ 100000) ∧ (0 ≤ day ∧ day ≤ 100365) ∧ 100000 < day + 365 * (n : Int) ∧ Hid (dueO k0 k1 k2 k3 s ms least = dueF K least n day r) ∧ W = W') (fun _ z _ => (100366 - intOf z).toNat)
  case atStart => exact ⟨300, _, _, rfl, rfl, hx1, by omega, by omega, HO, rfl⟩
  case round =>
    obtain ⟨n, day, r, rfl, rfl, hr, hd, hn, HD, rfl⟩ := hrel
    clear HO m0 m1
    by_cases hdl : day ≤ 100000
    · obtain ⟨n, rfl⟩ : ∃ n', n = n' + 1 := ⟨n - 1, by omega⟩
      by_cases hrl : r < least
      · have HV := due_ok HOK.out (HD.out.trans (dueF_yes hdl hrl))
        go_wp2_with fail
        go_ret3
        exact ⟨_, _, _, rfl, HV, hB⟩
      · have HD2 : Hid (dueO k0 k1 k2 k3 s ms least = dueF K least n (day + 365) (r * K / 1000)) := HD.out.trans (dueF_step hdl hrl)
        obtain ⟨b0, b1, b2, b3⟩ := aged_bound hr hK1
        have e1 : IntKind.i64.wrap (r * K) = r * K := IntWalk.i64_in _ (by omega)
        have e2 : (r * K).tdiv 1000 = r * K / 1000 := Int.tdiv_eq_ediv_of_nonneg b0
        have e3 : IntKind.i64.wrap (r * K / 1000) = r * K / 1000 := IntWalk.i64_in _ (by omega)
        clear HD
        go_wp2_with fail
        skip
        go_roundw
        case rel => exact ⟨n, _, _, rfl, by go_num, ⟨b2, b3⟩, by omega, by omega, HD2, by first | rfl | trivial⟩
        case measure => simp [intOf]; omega
    · have HV := due_ok HOK.out (HD.out.trans (dueF_stop (by omega)))
      go_wp2_with fail
      go_ret3
      exact ⟨_, _, _, rfl, HV, hB⟩
end Go.Proofs.Ytfhlopegmfdkpaa
