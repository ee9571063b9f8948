/- DueJob of the reference: the walk. -/
import Derived.Test.YtfhlopegmfdkpaaNDue6
namespace Go.Proofs.Ytfhlopegmfdkpaa
open Go Go.RowKit
set_option maxRecDepth 100000 in
set_option maxHeartbeats 4000000 in
theorem refDueJob_any (nu ro ch cr k0 k1 k2 k3 side : Int) (A : Option Addr) (c : Nat) (ms : List Ms) (least lead : Int) (w : World) (hS : Slc Ms.enc 2 w w.heap.size A ms) (hl : ms.length ≤ 1000) :
    Calls Try.prog 37 #[.agg #[.int .i64 nu, .int .i64 ro, .int .i64 ch, .int .i64 cr, .int .i64 k0, .int .i64 k1, .int .i64 k2, .int .i64 k3, .int .i64 side, .slice A ms.length c, .int .i64 least, .int .i64 lead]] w (DueJobPost nu ro ch cr lead k0 k1 k2 k3 side ms least w) := by
  have hk := (Blk.new w 63 #[.int .i64 nu, .int .i64 ro, .int .i64 ch, .int .i64 cr, .int .i64 k0, .int .i64 k1, .int .i64 k2, .int .i64 k3, .int .i64 side, .slice A ms.length c, .int .i64 least, .int .i64 lead]).alloc (.cells #[.int .i64 0, .int .i64 0, .int .i64 0, .int .i64 0, .int .i64 0, .int .i64 0, .bool false, .bool false] 39)
  have hr := Blk.new (w.alloc (.cells #[.int .i64 nu, .int .i64 ro, .int .i64 ch, .int .i64 cr, .int .i64 k0, .int .i64 k1, .int .i64 k2, .int .i64 k3, .int .i64 side, .slice A ms.length c, .int .i64 least, .int .i64 lead] 63)) 39 #[.int .i64 0, .int .i64 0, .int .i64 0, .int .i64 0, .int .i64 0, .int .i64 0, .bool false, .bool false]
  rw [show (w.alloc (.cells #[.int .i64 nu, .int .i64 ro, .int .i64 ch, .int .i64 cr, .int .i64 k0, .int .i64 k1, .int .i64 k2, .int .i64 k3, .int .i64 side, .slice A ms.length c, .int .i64 least, .int .i64 lead] 63)).heap.size = w.heap.size + 1 by simp] at hr
  have hB := ((Below.refl w.heap.size w).alloc (Nat.le_refl _) (.cells #[.int .i64 nu, .int .i64 ro, .int .i64 ch, .int .i64 cr, .int .i64 k0, .int .i64 k1, .int .i64 k2, .int .i64 k3, .int .i64 side, .slice A ms.length c, .int .i64 least, .int .i64 lead] 63)).alloc (by simp) (.cells #[.int .i64 0, .int .i64 0, .int .i64 0, .int .i64 0, .int .i64 0, .int .i64 0, .bool false, .bool false] 39)
  have hsz : ((w.alloc (.cells #[.int .i64 nu, .int .i64 ro, .int .i64 ch, .int .i64 cr, .int .i64 k0, .int .i64 k1, .int .i64 k2, .int .i64 k3, .int .i64 side, .slice A ms.length c, .int .i64 least, .int .i64 lead] 63)).alloc (.cells #[.int .i64 0, .int .i64 0, .int .i64 0, .int .i64 0, .int .i64 0, .int .i64 0, .bool false, .bool false] 39)).heap.size = w.heap.size + 2 := by simp
  go_enter Try.func37, Try.ntmps37
  go_upto_region 1 with fail
  generalize (w.alloc (.cells #[.int .i64 nu, .int .i64 ro, .int .i64 ch, .int .i64 cr, .int .i64 k0, .int .i64 k1, .int .i64 k2, .int .i64 k3, .int .i64 side, .slice A ms.length c, .int .i64 least, .int .i64 lead] 63)).alloc (.cells #[.int .i64 0, .int .i64 0, .int .i64 0, .int .i64 0, .int .i64 0, .int .i64 0, .bool false, .bool false] 39) = W at *
  have c0 := hk.cell_ 0 rfl
  have c1 := hk.cell_ 1 rfl
  have c2 := hk.cell_ 2 rfl
  have c3 := hk.cell_ 3 rfl
  have c4 := hk.cell_ 4 rfl
  have c5 := hk.cell_ 5 rfl
  have c6 := hk.cell_ 6 rfl
  have c7 := hk.cell_ 7 rfl
  have c8 := hk.cell_ 8 rfl
  have c9 := hk.cell_ 9 rfl
  have c10 := hk.cell_ 10 rfl
  have c11 := hk.cell_ 11 rfl
  have q_c0 := (hk.alloc (.cells #[.int .i64 nu, .int .i64 ro, .int .i64 ch, .int .i64 0, .int .i64 0, .int .i64 cr, .bool true, .bool false] 39)).cell_ 0 rfl
  have q_c1 := (hk.alloc (.cells #[.int .i64 nu, .int .i64 ro, .int .i64 ch, .int .i64 0, .int .i64 0, .int .i64 cr, .bool true, .bool false] 39)).cell_ 1 rfl
  have q_c2 := (hk.alloc (.cells #[.int .i64 nu, .int .i64 ro, .int .i64 ch, .int .i64 0, .int .i64 0, .int .i64 cr, .bool true, .bool false] 39)).cell_ 2 rfl
  have q_c3 := (hk.alloc (.cells #[.int .i64 nu, .int .i64 ro, .int .i64 ch, .int .i64 0, .int .i64 0, .int .i64 cr, .bool true, .bool false] 39)).cell_ 3 rfl
  have q_c4 := (hk.alloc (.cells #[.int .i64 nu, .int .i64 ro, .int .i64 ch, .int .i64 0, .int .i64 0, .int .i64 cr, .bool true, .bool false] 39)).cell_ 4 rfl
  have q_c5 := (hk.alloc (.cells #[.int .i64 nu, .int .i64 ro, .int .i64 ch, .int .i64 0, .int .i64 0, .int .i64 cr, .bool true, .bool false] 39)).cell_ 5 rfl
  have q_c6 := (hk.alloc (.cells #[.int .i64 nu, .int .i64 ro, .int .i64 ch, .int .i64 0, .int .i64 0, .int .i64 cr, .bool true, .bool false] 39)).cell_ 6 rfl
  have q_c7 := (hk.alloc (.cells #[.int .i64 nu, .int .i64 ro, .int .i64 ch, .int .i64 0, .int .i64 0, .int .i64 cr, .bool true, .bool false] 39)).cell_ 7 rfl
  have q_c8 := (hk.alloc (.cells #[.int .i64 nu, .int .i64 ro, .int .i64 ch, .int .i64 0, .int .i64 0, .int .i64 cr, .bool true, .bool false] 39)).cell_ 8 rfl
  have q_c9 := (hk.alloc (.cells #[.int .i64 nu, .int .i64 ro, .int .i64 ch, .int .i64 0, .int .i64 0, .int .i64 cr, .bool true, .bool false] 39)).cell_ 9 rfl
  have q_c10 := (hk.alloc (.cells #[.int .i64 nu, .int .i64 ro, .int .i64 ch, .int .i64 0, .int .i64 0, .int .i64 cr, .bool true, .bool false] 39)).cell_ 10 rfl
  have q_c11 := (hk.alloc (.cells #[.int .i64 nu, .int .i64 ro, .int .i64 ch, .int .i64 0, .int .i64 0, .int .i64 cr, .bool true, .bool false] 39)).cell_ 11 rfl
  go_upto_region 2 with fail
  clear q_c0 q_c1 q_c2 q_c3 q_c4 q_c5 q_c6 q_c7 q_c8 q_c9 q_c10 q_c11
  clear c0 c1 c2 c3 c4 c5 c6 c7 c8 c9 c10 c11
  have hj := Blk.new W 39 #[.int .i64 nu, .int .i64 ro, .int .i64 ch, .int .i64 0, .int .i64 0, .int .i64 cr, .bool true, .bool false]
  replace hk := hk.alloc (.cells #[.int .i64 nu, .int .i64 ro, .int .i64 ch, .int .i64 0, .int .i64 0, .int .i64 cr, .bool true, .bool false] 39)
  replace hr := hr.alloc (.cells #[.int .i64 nu, .int .i64 ro, .int .i64 ch, .int .i64 0, .int .i64 0, .int .i64 cr, .bool true, .bool false] 39)
  have hsz2 := (show (W.alloc (.cells #[.int .i64 nu, .int .i64 ro, .int .i64 ch, .int .i64 0, .int .i64 0, .int .i64 cr, .bool true, .bool false] 39)).heap.size = W.heap.size + 1 by simp)
  rw [hsz] at hsz2
  rw [hsz] at hj
  replace hB := hB.alloc hB.size (.cells #[.int .i64 nu, .int .i64 ro, .int .i64 ch, .int .i64 0, .int .i64 0, .int .i64 cr, .bool true, .bool false] 39)
  generalize W.alloc (.cells #[.int .i64 nu, .int .i64 ro, .int .i64 ch, .int .i64 0, .int .i64 0, .int .i64 cr, .bool true, .bool false] 39) = W at *
  have c0 := hk.cell_ 0 rfl
  have c1 := hk.cell_ 1 rfl
  have c2 := hk.cell_ 2 rfl
  have c3 := hk.cell_ 3 rfl
  have c4 := hk.cell_ 4 rfl
  have c5 := hk.cell_ 5 rfl
  have c6 := hk.cell_ 6 rfl
  have c7 := hk.cell_ 7 rfl
  have c8 := hk.cell_ 8 rfl
  have c9 := hk.cell_ 9 rfl
  have c10 := hk.cell_ 10 rfl
  have c11 := hk.cell_ 11 rfl
  have p0 := hj.cell_ 0 rfl
  have p1 := hj.cell_ 1 rfl
  have p2 := hj.cell_ 2 rfl
  have p3 := hj.cell_ 3 rfl
  have p4 := hj.cell_ 4 rfl
  have p5 := hj.cell_ 5 rfl
  have p6 := hj.cell_ 6 rfl
  have p7 := hj.cell_ 7 rfl
  clear hsz2
  clear hsz
  cases hj0 : jobOk (jobZ nu ro ch cr)
  case false =>
    have HV := dueJob_bad (k0 := k0) (k1 := k1) (k2 := k2) (k3 := k3) (side := side) (ms := ms) (least := least) (show (jobOk (jobZ nu ro ch cr) && inB 0 lead 100000) = false by rw [hj0]; rfl)
    go_wp2_with fail
    refine (refJobZ_any nu ro ch cr _ hj0).mono ?_
    rintro e W ⟨rfl, hb⟩
    clear c0 c1 c2 c3 c4 c5 c6 c7 c8 c9 c10 c11 p0 p1 p2 p3 p4 p5 p6 p7
    replace hk := hk.below hb hk.lt
    replace hr := hr.below hb hr.lt
    replace hj := hj.below hb hj.lt
    replace hB := hB.trans (hb.mono hB.size)
    clear hb
    have c0 := hk.cell_ 0 rfl
    have c1 := hk.cell_ 1 rfl
    have c2 := hk.cell_ 2 rfl
    have c3 := hk.cell_ 3 rfl
    have c4 := hk.cell_ 4 rfl
    have c5 := hk.cell_ 5 rfl
    have c6 := hk.cell_ 6 rfl
    have c7 := hk.cell_ 7 rfl
    have c8 := hk.cell_ 8 rfl
    have c9 := hk.cell_ 9 rfl
    have c10 := hk.cell_ 10 rfl
    have c11 := hk.cell_ 11 rfl
    have p0 := hj.cell_ 0 rfl
    have p1 := hj.cell_ 1 rfl
    have p2 := hj.cell_ 2 rfl
    have p3 := hj.cell_ 3 rfl
    have p4 := hj.cell_ 4 rfl
    have p5 := hj.cell_ 5 rfl
    have p6 := hj.cell_ 6 rfl
    have p7 := hj.cell_ 7 rfl
    clear hj0
    go_wp2_with (refine wpList_store_blk rfl 39 _ _ rfl #[.int .i64 0, .int .i64 0, .int .i64 0, .int .i64 0, .int .i64 0, .int .i64 0, .bool false, .bool false] hr rfl rfl (by kernel_rfl) rfl (by simp [Value.oneCell']) ?_; intro W6 hr7 hc7; have r0 := hr7.cell_ 0 rfl; have r1 := hr7.cell_ 1 rfl; have r2 := hr7.cell_ 2 rfl; have r3 := hr7.cell_ 3 rfl; have r4 := hr7.cell_ 4 rfl; have r5 := hr7.cell_ 5 rfl; have r6 := hr7.cell_ 6 rfl; have r7 := hr7.cell_ 7 rfl)
    exact bodyPost_ret (v := .tuple #[.agg #[.int .i64 0, .int .i64 0, .int .i64 0, .int .i64 0, .int .i64 0, .int .i64 0, .bool false, .bool false], .bool false, .int .i64 2]) (by simp [results, Try.results37, go_sem, r0, r1, r2, r3, r4, r5, r6, r7]) rfl ⟨⟨0, 0, 0, 0, 0, 0, false, false⟩, false, 2, rfl, HV, hB.trans (hc7.below1 hB.size (by omega))⟩
  case true =>
    cases hld : inB 0 lead 100000
    case false =>
      have HV := dueJob_bad (k0 := k0) (k1 := k1) (k2 := k2) (k3 := k3) (side := side) (ms := ms) (least := least) (show (jobOk (jobZ nu ro ch cr) && inB 0 lead 100000) = false by rw [hj0, hld]; rfl)
      go_wp2_with fail
      refine (refJobZ_any nu ro ch cr _ hj0).mono ?_
      rintro e W ⟨rfl, hb⟩
      clear c0 c1 c2 c3 c4 c5 c6 c7 c8 c9 c10 c11 p0 p1 p2 p3 p4 p5 p6 p7
      replace hk := hk.below hb hk.lt
      replace hr := hr.below hb hr.lt
      replace hj := hj.below hb hj.lt
      replace hB := hB.trans (hb.mono hB.size)
      clear hb
      have c0 := hk.cell_ 0 rfl
      have c1 := hk.cell_ 1 rfl
      have c2 := hk.cell_ 2 rfl
      have c3 := hk.cell_ 3 rfl
      have c4 := hk.cell_ 4 rfl
      have c5 := hk.cell_ 5 rfl
      have c6 := hk.cell_ 6 rfl
      have c7 := hk.cell_ 7 rfl
      have c8 := hk.cell_ 8 rfl
      have c9 := hk.cell_ 9 rfl
      have c10 := hk.cell_ 10 rfl
      have c11 := hk.cell_ 11 rfl
      have p0 := hj.cell_ 0 rfl
      have p1 := hj.cell_ 1 rfl
      have p2 := hj.cell_ 2 rfl
      have p3 := hj.cell_ 3 rfl
      have p4 := hj.cell_ 4 rfl
      have p5 := hj.cell_ 5 rfl
      have p6 := hj.cell_ 6 rfl
      have p7 := hj.cell_ 7 rfl
      clear hj0
      go_wp2_with fail
      refine (nfrom_is 0 lead 100000 _ hld).mono ?_
      rintro e W' ⟨rfl, rfl⟩
      clear hld
      go_wp2_with (refine wpList_store_blk rfl 39 _ _ rfl #[.int .i64 0, .int .i64 0, .int .i64 0, .int .i64 0, .int .i64 0, .int .i64 0, .bool false, .bool false] hr rfl rfl (by kernel_rfl) rfl (by simp [Value.oneCell']) ?_; intro W6 hr7 hc7; have r0 := hr7.cell_ 0 rfl; have r1 := hr7.cell_ 1 rfl; have r2 := hr7.cell_ 2 rfl; have r3 := hr7.cell_ 3 rfl; have r4 := hr7.cell_ 4 rfl; have r5 := hr7.cell_ 5 rfl; have r6 := hr7.cell_ 6 rfl; have r7 := hr7.cell_ 7 rfl)
      exact bodyPost_ret (v := .tuple #[.agg #[.int .i64 0, .int .i64 0, .int .i64 0, .int .i64 0, .int .i64 0, .int .i64 0, .bool false, .bool false], .bool false, .int .i64 2]) (by simp [results, Try.results37, go_sem, r0, r1, r2, r3, r4, r5, r6, r7]) rfl ⟨⟨0, 0, 0, 0, 0, 0, false, false⟩, false, 2, rfl, HV, hB.trans (hc7.below1 hB.size (by omega))⟩
    case true =>
      have HOK : Hid ((jobOk (jobZ nu ro ch cr) && inB 0 lead 100000) = true) := by show _ = _; rw [hj0, hld]; rfl
      go_wp2_with fail
      refine (refJobZ_any nu ro ch cr _ hj0).mono ?_
      rintro e W ⟨rfl, hb⟩
      clear c0 c1 c2 c3 c4 c5 c6 c7 c8 c9 c10 c11 p0 p1 p2 p3 p4 p5 p6 p7
      replace hk := hk.below hb hk.lt
      replace hr := hr.below hb hr.lt
      replace hj := hj.below hb hj.lt
      replace hB := hB.trans (hb.mono hB.size)
      clear hb
      have c0 := hk.cell_ 0 rfl
      have c1 := hk.cell_ 1 rfl
      have c2 := hk.cell_ 2 rfl
      have c3 := hk.cell_ 3 rfl
      have c4 := hk.cell_ 4 rfl
      have c5 := hk.cell_ 5 rfl
      have c6 := hk.cell_ 6 rfl
      have c7 := hk.cell_ 7 rfl
      have c8 := hk.cell_ 8 rfl
      have c9 := hk.cell_ 9 rfl
      have c10 := hk.cell_ 10 rfl
      have c11 := hk.cell_ 11 rfl
      have p0 := hj.cell_ 0 rfl
      have p1 := hj.cell_ 1 rfl
      have p2 := hj.cell_ 2 rfl
      have p3 := hj.cell_ 3 rfl
      have p4 := hj.cell_ 4 rfl
      have p5 := hj.cell_ 5 rfl
      have p6 := hj.cell_ 6 rfl
      have p7 := hj.cell_ 7 rfl
      clear hj0
      go_wp2_with fail
      refine (nfrom_is 0 lead 100000 _ hld).mono ?_
      rintro e W' ⟨rfl, rfl⟩
      have hld2 := inB_iff.1 hld
      clear hld
      go_wp2_with fail
      refine (refDue_any k0 k1 k2 k3 side A c ms least _ ((hS.below hB).more hB.size) hl).mono ?_
      rintro e W ⟨d, b, r, rfl, hV, hb⟩
      clear c0 c1 c2 c3 c4 c5 c6 c7 c8 c9 c10 c11 p0 p1 p2 p3 p4 p5 p6 p7
      replace hk := hk.below hb hk.lt
      replace hr := hr.below hb hr.lt
      replace hj := hj.below hb hj.lt
      replace hB := hB.trans (hb.mono hB.size)
      clear hb
      have c0 := hk.cell_ 0 rfl
      have c1 := hk.cell_ 1 rfl
      have c2 := hk.cell_ 2 rfl
      have c3 := hk.cell_ 3 rfl
      have c4 := hk.cell_ 4 rfl
      have c5 := hk.cell_ 5 rfl
      have c6 := hk.cell_ 6 rfl
      have c7 := hk.cell_ 7 rfl
      have c8 := hk.cell_ 8 rfl
      have c9 := hk.cell_ 9 rfl
      have c10 := hk.cell_ 10 rfl
      have c11 := hk.cell_ 11 rfl
      have p0 := hj.cell_ 0 rfl
      have p1 := hj.cell_ 1 rfl
      have p2 := hj.cell_ 2 rfl
      have p3 := hj.cell_ 3 rfl
      have p4 := hj.cell_ 4 rfl
      have p5 := hj.cell_ 5 rfl
      have p6 := hj.cell_ 6 rfl
      have p7 := hj.cell_ 7 rfl
      rcases due_cases hV with ⟨rfl, rfl⟩ | ⟨rfl, rfl⟩ | ⟨rfl, rfl, hdb, hmB⟩
      · have HV := dueJob_no HOK.out hV
        clear hV
        go_wp2_with (refine wpList_store_blk rfl 39 _ _ rfl #[.int .i64 0, .int .i64 0, .int .i64 0, .int .i64 0, .int .i64 0, .int .i64 0, .bool false, .bool false] hr rfl rfl (by kernel_rfl) rfl (by simp [Value.oneCell']) ?_; intro W6 hr7 hc7; have r0 := hr7.cell_ 0 rfl; have r1 := hr7.cell_ 1 rfl; have r2 := hr7.cell_ 2 rfl; have r3 := hr7.cell_ 3 rfl; have r4 := hr7.cell_ 4 rfl; have r5 := hr7.cell_ 5 rfl; have r6 := hr7.cell_ 6 rfl; have r7 := hr7.cell_ 7 rfl)
        exact bodyPost_ret (v := .tuple #[.agg #[.int .i64 0, .int .i64 0, .int .i64 0, .int .i64 0, .int .i64 0, .int .i64 0, .bool false, .bool false], .bool false, .int .i64 2]) (by simp [results, Try.results37, go_sem, r0, r1, r2, r3, r4, r5, r6, r7]) rfl ⟨⟨0, 0, 0, 0, 0, 0, false, false⟩, false, 2, rfl, HV, hB.trans (hc7.below1 hB.size (by omega))⟩
      · have HV := dueJob_no HOK.out hV
        clear hV
        go_wp2_with (refine wpList_store_blk rfl 39 _ _ rfl #[.int .i64 0, .int .i64 0, .int .i64 0, .int .i64 0, .int .i64 0, .int .i64 0, .bool false, .bool false] hr rfl rfl (by kernel_rfl) rfl (by simp [Value.oneCell']) ?_; intro W6 hr7 hc7; have r0 := hr7.cell_ 0 rfl; have r1 := hr7.cell_ 1 rfl; have r2 := hr7.cell_ 2 rfl; have r3 := hr7.cell_ 3 rfl; have r4 := hr7.cell_ 4 rfl; have r5 := hr7.cell_ 5 rfl; have r6 := hr7.cell_ 6 rfl; have r7 := hr7.cell_ 7 rfl)
        exact bodyPost_ret (v := .tuple #[.agg #[.int .i64 0, .int .i64 0, .int .i64 0, .int .i64 0, .int .i64 0, .int .i64 0, .bool false, .bool false], .bool false, .int .i64 0]) (by simp [results, Try.results37, go_sem, r0, r1, r2, r3, r4, r5, r6, r7]) rfl ⟨⟨0, 0, 0, 0, 0, 0, false, false⟩, false, 0, rfl, HV, hB.trans (hc7.below1 hB.size (by omega))⟩
      obtain ⟨_, hln, _, hms⟩ := meas_facts hmB
      obtain ⟨m, hm⟩ : ∃ m, ms.length = m + 1 := ⟨ms.length - 1, by omega⟩
      obtain ⟨b', off, hA, _, d0, _⟩ := lastM_at (hS.below hB) hm
      have hxb := (hms _ (lastM_mem hm)).1
      obtain ⟨x, hx⟩ : ∃ x, x = lastM ms := ⟨_, rfl⟩
      rw [← hx] at d0 hxb
      rw [hm]
      rw [hm] at hk c9
      have HXL : Hid (x = lastM ms) := hx
      have e7 : IntKind.i64.wrap (m : Int) = m := IntWalk.i64_in _ (by omega)
      have hm50 : m ≤ 50 := by omega
      subst hA
      clear hx hm hms hmB hln hS hl
      by_cases h1 : d - 1 < x.day
      · by_cases h2 : ¬ 0 < x.day - lead
        · have HV := dueJob_yes HOK.out hV (la := x.day) (fi := 0) (by rw [← HXL.out]; omega) (by omega)
          have e1 : IntKind.i64.wrap (d - 1) = d - 1 := IntWalk.i64_in _ (by omega)
          have e2 : IntKind.i64.wrap (x.day - lead) = x.day - lead := IntWalk.i64_in _ (by omega)
          clear hV hxb
          go_upto_region 8 with (refine wpList_store_at rfl 3 _ _ rfl (.int .i64 (x.day)) hj rfl rfl (by kernel_rfl) rfl (by simp) rfl ?_; intro W3 hj3 hc3)
          clear c0 c1 c2 c3 c4 c5 c6 c7 c8 c9 c10 c11 p0 p1 p2 p3 p4 p5 p6 p7
          have hr3 := hr.chg1 hc3 (by omega)
          have hB3 := hB.trans (hc3.below1 hB.size (by omega))
          (have c11 := (hk.chg1 hc3 (by omega)).cell_ 11 (v := .int .i64 lead) rfl)
          clear hj hr hk hB hc3 d0
          have q4 := hj3.cell_ 4 (v := .int .i64 (x.day)) rfl
          go_upto_region 9 with (refine wpList_store_at rfl 3 _ _ rfl (.int .i64 (0)) hj3 rfl rfl (by kernel_rfl) rfl (by simp) rfl ?_; intro W4 hj4 hc4)
          have hr4 := hr3.chg1 hc4 (by omega)
          have hB4 := hB3.trans (hc4.below1 hB3.size (by omega))
          clear hj3 hr3 hB3 hc4 q4
          have q0 := hj4.cell_ 0 (v := .int .i64 nu) rfl
          have q1 := hj4.cell_ 1 (v := .int .i64 ro) rfl
          have q2 := hj4.cell_ 2 (v := .int .i64 ch) rfl
          have q3 := hj4.cell_ 3 (v := .int .i64 (0)) rfl
          have q4 := hj4.cell_ 4 (v := .int .i64 (x.day)) rfl
          have q5 := hj4.cell_ 5 (v := .int .i64 cr) rfl
          have q6 := hj4.cell_ 6 (v := .bool true) rfl
          have q7 := hj4.cell_ 7 (v := .bool false) rfl
          go_wp2_with (refine wpList_store_blk rfl 39 _ _ rfl #[.int .i64 nu, .int .i64 ro, .int .i64 ch, .int .i64 (0), .int .i64 (x.day), .int .i64 cr, .bool true, .bool false] hr4 rfl rfl (by kernel_rfl) rfl (by simp [Value.oneCell']) ?_; intro W6 hr7 hc7; have r0 := hr7.cell_ 0 rfl; have r1 := hr7.cell_ 1 rfl; have r2 := hr7.cell_ 2 rfl; have r3 := hr7.cell_ 3 rfl; have r4 := hr7.cell_ 4 rfl; have r5 := hr7.cell_ 5 rfl; have r6 := hr7.cell_ 6 rfl; have r7 := hr7.cell_ 7 rfl)
          exact bodyPost_ret (v := .tuple #[.agg #[.int .i64 nu, .int .i64 ro, .int .i64 ch, .int .i64 (0), .int .i64 (x.day), .int .i64 cr, .bool true, .bool false], .bool true, .int .i64 0]) (by simp [results, Try.results37, go_sem, r0, r1, r2, r3, r4, r5, r6, r7]) rfl ⟨⟨nu, ro, ch, 0, x.day, cr, true, false⟩, true, 0, rfl, HV, hB4.trans (hc7.below1 hB4.size (by omega))⟩
        · have HV := dueJob_yes HOK.out hV (la := x.day) (fi := x.day - lead) (by rw [← HXL.out]; omega) (by omega)
          have e1 : IntKind.i64.wrap (d - 1) = d - 1 := IntWalk.i64_in _ (by omega)
          have e2 : IntKind.i64.wrap (x.day - lead) = x.day - lead := IntWalk.i64_in _ (by omega)
          clear hV hxb
          go_upto_region 8 with (refine wpList_store_at rfl 3 _ _ rfl (.int .i64 (x.day)) hj rfl rfl (by kernel_rfl) rfl (by simp) rfl ?_; intro W3 hj3 hc3)
          clear c0 c1 c2 c3 c4 c5 c6 c7 c8 c9 c10 c11 p0 p1 p2 p3 p4 p5 p6 p7
          have hr3 := hr.chg1 hc3 (by omega)
          have hB3 := hB.trans (hc3.below1 hB.size (by omega))
          (have c11 := (hk.chg1 hc3 (by omega)).cell_ 11 (v := .int .i64 lead) rfl)
          clear hj hr hk hB hc3 d0
          have q4 := hj3.cell_ 4 (v := .int .i64 (x.day)) rfl
          go_upto_region 9 with (refine wpList_store_at rfl 3 _ _ rfl (.int .i64 (x.day - lead)) hj3 rfl rfl (by kernel_rfl) rfl (by simp) rfl ?_; intro W4 hj4 hc4)
          have hr4 := hr3.chg1 hc4 (by omega)
          have hB4 := hB3.trans (hc4.below1 hB3.size (by omega))
          clear hj3 hr3 hB3 hc4 q4
          have q0 := hj4.cell_ 0 (v := .int .i64 nu) rfl
          have q1 := hj4.cell_ 1 (v := .int .i64 ro) rfl
          have q2 := hj4.cell_ 2 (v := .int .i64 ch) rfl
          have q3 := hj4.cell_ 3 (v := .int .i64 (x.day - lead)) rfl
          have q4 := hj4.cell_ 4 (v := .int .i64 (x.day)) rfl
          have q5 := hj4.cell_ 5 (v := .int .i64 cr) rfl
          have q6 := hj4.cell_ 6 (v := .bool true) rfl
          have q7 := hj4.cell_ 7 (v := .bool false) rfl
          go_wp2_with (refine wpList_store_blk rfl 39 _ _ rfl #[.int .i64 nu, .int .i64 ro, .int .i64 ch, .int .i64 (x.day - lead), .int .i64 (x.day), .int .i64 cr, .bool true, .bool false] hr4 rfl rfl (by kernel_rfl) rfl (by simp [Value.oneCell']) ?_; intro W6 hr7 hc7; have r0 := hr7.cell_ 0 rfl; have r1 := hr7.cell_ 1 rfl; have r2 := hr7.cell_ 2 rfl; have r3 := hr7.cell_ 3 rfl; have r4 := hr7.cell_ 4 rfl; have r5 := hr7.cell_ 5 rfl; have r6 := hr7.cell_ 6 rfl; have r7 := hr7.cell_ 7 rfl)
          exact bodyPost_ret (v := .tuple #[.agg #[.int .i64 nu, .int .i64 ro, .int .i64 ch, .int .i64 (x.day - lead), .int .i64 (x.day), .int .i64 cr, .bool true, .bool false], .bool true, .int .i64 0]) (by simp [results, Try.results37, go_sem, r0, r1, r2, r3, r4, r5, r6, r7]) rfl ⟨⟨nu, ro, ch, x.day - lead, x.day, cr, true, false⟩, true, 0, rfl, HV, hB4.trans (hc7.below1 hB4.size (by omega))⟩
      · by_cases h2 : ¬ 0 < d - 1 - lead
        · have HV := dueJob_yes HOK.out hV (la := d - 1) (fi := 0) (by rw [← HXL.out]; omega) (by omega)
          have e1 : IntKind.i64.wrap (d - 1) = d - 1 := IntWalk.i64_in _ (by omega)
          have e2 : IntKind.i64.wrap (d - 1 - lead) = d - 1 - lead := IntWalk.i64_in _ (by omega)
          clear hV hxb
          go_upto_region 8 with (refine wpList_store_at rfl 3 _ _ rfl (.int .i64 (d - 1)) hj rfl rfl (by kernel_rfl) rfl (by simp) rfl ?_; intro W3 hj3 hc3)
          clear c0 c1 c2 c3 c4 c5 c6 c7 c8 c9 c10 c11 p0 p1 p2 p3 p4 p5 p6 p7
          have hr3 := hr.chg1 hc3 (by omega)
          have hB3 := hB.trans (hc3.below1 hB.size (by omega))
          (have c11 := (hk.chg1 hc3 (by omega)).cell_ 11 (v := .int .i64 lead) rfl)
          clear hj hr hk hB hc3 d0
          have q4 := hj3.cell_ 4 (v := .int .i64 (d - 1)) rfl
          go_upto_region 9 with (refine wpList_store_at rfl 3 _ _ rfl (.int .i64 (0)) hj3 rfl rfl (by kernel_rfl) rfl (by simp) rfl ?_; intro W4 hj4 hc4)
          have hr4 := hr3.chg1 hc4 (by omega)
          have hB4 := hB3.trans (hc4.below1 hB3.size (by omega))
          clear hj3 hr3 hB3 hc4 q4
          have q0 := hj4.cell_ 0 (v := .int .i64 nu) rfl
          have q1 := hj4.cell_ 1 (v := .int .i64 ro) rfl
          have q2 := hj4.cell_ 2 (v := .int .i64 ch) rfl
          have q3 := hj4.cell_ 3 (v := .int .i64 (0)) rfl
          have q4 := hj4.cell_ 4 (v := .int .i64 (d - 1)) rfl
          have q5 := hj4.cell_ 5 (v := .int .i64 cr) rfl
          have q6 := hj4.cell_ 6 (v := .bool true) rfl
          have q7 := hj4.cell_ 7 (v := .bool false) rfl
          go_wp2_with (refine wpList_store_blk rfl 39 _ _ rfl #[.int .i64 nu, .int .i64 ro, .int .i64 ch, .int .i64 (0), .int .i64 (d - 1), .int .i64 cr, .bool true, .bool false] hr4 rfl rfl (by kernel_rfl) rfl (by simp [Value.oneCell']) ?_; intro W6 hr7 hc7; have r0 := hr7.cell_ 0 rfl; have r1 := hr7.cell_ 1 rfl; have r2 := hr7.cell_ 2 rfl; have r3 := hr7.cell_ 3 rfl; have r4 := hr7.cell_ 4 rfl; have r5 := hr7.cell_ 5 rfl; have r6 := hr7.cell_ 6 rfl; have r7 := hr7.cell_ 7 rfl)
          exact bodyPost_ret (v := .tuple #[.agg #[.int .i64 nu, .int .i64 ro, .int .i64 ch, .int .i64 (0), .int .i64 (d - 1), .int .i64 cr, .bool true, .bool false], .bool true, .int .i64 0]) (by simp [results, Try.results37, go_sem, r0, r1, r2, r3, r4, r5, r6, r7]) rfl ⟨⟨nu, ro, ch, 0, d - 1, cr, true, false⟩, true, 0, rfl, HV, hB4.trans (hc7.below1 hB4.size (by omega))⟩
        · have HV := dueJob_yes HOK.out hV (la := d - 1) (fi := d - 1 - lead) (by rw [← HXL.out]; omega) (by omega)
          have e1 : IntKind.i64.wrap (d - 1) = d - 1 := IntWalk.i64_in _ (by omega)
          have e2 : IntKind.i64.wrap (d - 1 - lead) = d - 1 - lead := IntWalk.i64_in _ (by omega)
          clear hV hxb
          go_upto_region 8 with (refine wpList_store_at rfl 3 _ _ rfl (.int .i64 (d - 1)) hj rfl rfl (by kernel_rfl) rfl (by simp) rfl ?_; intro W3 hj3 hc3)
          clear c0 c1 c2 c3 c4 c5 c6 c7 c8 c9 c10 c11 p0 p1 p2 p3 p4 p5 p6 p7
          have hr3 := hr.chg1 hc3 (by omega)
          have hB3 := hB.trans (hc3.below1 hB.size (by omega))
          (have c11 := (hk.chg1 hc3 (by omega)).cell_ 11 (v := .int .i64 lead) rfl)
          clear hj hr hk hB hc3 d0
          have q4 := hj3.cell_ 4 (v := .int .i64 (d - 1)) rfl
          go_upto_region 9 with (refine wpList_store_at rfl 3 _ _ rfl (.int .i64 (d - 1 - lead)) hj3 rfl rfl (by kernel_rfl) rfl (by simp) rfl ?_; intro W4 hj4 hc4)
          have hr4 := hr3.chg1 hc4 (by omega)
          have hB4 := hB3.trans (hc4.below1 hB3.size (by omega))
          clear hj3 hr3 hB3 hc4 q4
          have q0 := hj4.cell_ 0 (v := .int .i64 nu) rfl
          have q1 := hj4.cell_ 1 (v := .int .i64 ro) rfl
          have q2 := hj4.cell_ 2 (v := .int .i64 ch) rfl
          have q3 := hj4.cell_ 3 (v := .int .i64 (d - 1 - lead)) rfl
          have q4 := hj4.cell_ 4 (v := .int .i64 (d - 1)) rfl
          have q5 := hj4.cell_ 5 (v := .int .i64 cr) rfl
          have q6 := hj4.cell_ 6 (v := .bool true) rfl
          have q7 := hj4.cell_ 7 (v := .bool false) rfl
          go_wp2_with (refine wpList_store_blk rfl 39 _ _ rfl #[.int .i64 nu, .int .i64 ro, .int .i64 ch, .int .i64 (d - 1 - lead), .int .i64 (d - 1), .int .i64 cr, .bool true, .bool false] hr4 rfl rfl (by kernel_rfl) rfl (by simp [Value.oneCell']) ?_; intro W6 hr7 hc7; have r0 := hr7.cell_ 0 rfl; have r1 := hr7.cell_ 1 rfl; have r2 := hr7.cell_ 2 rfl; have r3 := hr7.cell_ 3 rfl; have r4 := hr7.cell_ 4 rfl; have r5 := hr7.cell_ 5 rfl; have r6 := hr7.cell_ 6 rfl; have r7 := hr7.cell_ 7 rfl)
          exact bodyPost_ret (v := .tuple #[.agg #[.int .i64 nu, .int .i64 ro, .int .i64 ch, .int .i64 (d - 1 - lead), .int .i64 (d - 1), .int .i64 cr, .bool true, .bool false], .bool true, .int .i64 0]) (by simp [results, Try.results37, go_sem, r0, r1, r2, r3, r4, r5, r6, r7]) rfl ⟨⟨nu, ro, ch, d - 1 - lead, d - 1, cr, true, false⟩, true, 0, rfl, HV, hB4.trans (hc7.below1 hB4.size (by omega))⟩
end Go.Proofs.Ytfhlopegmfdkpaa
