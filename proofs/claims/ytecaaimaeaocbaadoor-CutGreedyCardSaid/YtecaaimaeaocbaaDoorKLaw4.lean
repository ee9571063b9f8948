/- CutLong: the walk. -/
import Derived.Test.YtecaaimaeaocbaaDoorKBatch
namespace Go.Proofs.YtecaaimaeaocbaaDoor
open Go Go.RowKit
theorem shaped_long {n : Nat} {bs : List Bt} (h : 1000 < bs.length) : shapedB n bs = false := by
  unfold shapedB
  rw [decide_eq_false (by omega)]; rfl
theorem refKValidB_is (L K : Int) (A : Option Addr) (c : Nat) (l : List Ask) (w : World) (hS : Slc Ask.enc 2 w w.heap.size A l) {v : Bool} (h : validK L K l = v) :
    Calls Tryd.prog 26 #[.agg #[.int .i64 L, .int .i64 K, .slice A l.length c]] w fun e w' => e = .returned (.bool v) ∧ Below w.heap.size w w' := by
  subst h; exact refKValid_any L K A c l w hS
theorem wide_is (L K : Int) (A : Option Addr) (c : Nat) (l : List Ask) (AB : Option Addr) (cB n : Nat) (bs : List Bt) (w : World) (hS : Slc Bt.enc 2 w w.heap.size AB bs) (hn : bs.length = n) {v : Bool} (h : wideP l.length bs = v) :
    Calls Tryd.prog 17 #[.agg #[.int .i64 L, .int .i64 K, .slice A l.length c], .slice AB n cB] w fun e w' => e = .returned (.bool v) ∧ Below w.heap.size w w' := by
  subst h hn; exact wide_any L K A c l AB cB bs w hS
set_option maxRecDepth 100000 in
set_option maxHeartbeats 2000000 in
theorem long_walk (L K : Int) (A : Option Addr) (c : Nat) (l : List Ask) (p : Bt) (tag : Int) (w : World) (hS : Slc Ask.enc 2 w w.heap.size A l) (ht : 0 ≤ tag ∧ tag ≤ 255) :
    Calls Tryd.prog 13 #[.agg #[.int .i64 L, .int .i64 K, .slice A l.length c], .agg #[.int .i64 p.t, .slice p.A p.n p.c], .int .u8 tag] w fun e w' => e = .returned (.bool true) ∧ Below w.heap.size w w' := by
  have hz : (w.alloc (.cells #[.int .i64 L, .int .i64 K, .slice A l.length c] 24)).heap.size = w.heap.size + 1 := by simp
  have hk := (Blk.new w 24 #[.int .i64 L, .int .i64 K, .slice A l.length c]).alloc (.cells #[.int .i64 p.t, .slice p.A p.n p.c] 73)
  have hm := Blk.new (w.alloc (.cells #[.int .i64 L, .int .i64 K, .slice A l.length c] 24)) 73 #[.int .i64 p.t, .slice p.A p.n p.c]
  rw [hz] at hm
  have hB := ((Below.refl w.heap.size w).alloc (Nat.le_refl _) (.cells #[.int .i64 L, .int .i64 K, .slice A l.length c] 24)).alloc (by omega) (.cells #[.int .i64 p.t, .slice p.A p.n p.c] 73)
  have hz2 : w.heap.size + 2 ≤ ((w.alloc (.cells #[.int .i64 L, .int .i64 K, .slice A l.length c] 24)).alloc (.cells #[.int .i64 p.t, .slice p.A p.n p.c] 73)).heap.size := by simp
  clear hz
  go_enter Tryd.func13, Tryd.ntmps13
  go_upto_region 1 with fail
  generalize (w.alloc (.cells #[.int .i64 L, .int .i64 K, .slice A l.length c] 24)).alloc (.cells #[.int .i64 p.t, .slice p.A p.n p.c] 73) = W at *
  have c0 := hk.cell_ 0 rfl
  have c1 := hk.cell_ 1 rfl
  have c2 := hk.cell_ 2 rfl
  have m0 := hm.cell_ 0 rfl
  have m1 := hm.cell_ 1 rfl
  have q_c0 := (hk.alloc (.cells #[.int .i64 p.t, .slice p.A p.n p.c] 73)).cell_ 0 rfl
  have q_c1 := (hk.alloc (.cells #[.int .i64 p.t, .slice p.A p.n p.c] 73)).cell_ 1 rfl
  have q_c2 := (hk.alloc (.cells #[.int .i64 p.t, .slice p.A p.n p.c] 73)).cell_ 2 rfl
  have q_m0 := (hm.alloc (.cells #[.int .i64 p.t, .slice p.A p.n p.c] 73)).cell_ 0 rfl
  have q_m1 := (hm.alloc (.cells #[.int .i64 p.t, .slice p.A p.n p.c] 73)).cell_ 1 rfl
  go_wp2_with fail
  clear q_c0 q_c1 q_c2 q_m0 q_m1
  clear c0 c1 c2 m0 m1
  have hn := Blk.new W 73 #[.int .i64 p.t, .slice p.A p.n p.c]
  replace hk := hk.alloc (.cells #[.int .i64 p.t, .slice p.A p.n p.c] 73)
  replace hm := hm.alloc (.cells #[.int .i64 p.t, .slice p.A p.n p.c] 73)
  replace hz2 := Nat.le_trans hz2 ((Below.refl _ W).alloc (Nat.le_refl _) (.cells #[.int .i64 p.t, .slice p.A p.n p.c] 73)).size
  have hsz_bx : (W.alloc (.cells #[.int .i64 p.t, .slice p.A p.n p.c] 73)).heap.size = W.heap.size + 1 := by simp
  have bxge := hB.size
  replace hB := hB.alloc hB.size (.cells #[.int .i64 p.t, .slice p.A p.n p.c] 73)
  generalize hbx : W.heap.size = bx at *
  generalize W.alloc (.cells #[.int .i64 p.t, .slice p.A p.n p.c] 73) = W at *
  clear hbx
  have c0 := hk.cell_ 0 rfl
  have c1 := hk.cell_ 1 rfl
  have c2 := hk.cell_ 2 rfl
  have m0 := hm.cell_ 0 rfl
  have m1 := hm.cell_ 1 rfl
  have n0 := hn.cell_ 0 rfl
  have n1 := hn.cell_ 1 rfl
  have HW1 := hide (hn.slc1 (y := p) (f := Bt.enc) (sz := 2) rfl)
  obtain ⟨v, hv⟩ : ∃ v, wideP l.length [p] = v := ⟨_, rfl⟩
  have HV := hide hv
  clear hv
  refine (wide_is L K A c l _ 1 1 [p] _ HW1.out rfl HV.out).mono ?_
  rintro e W ⟨rfl, hb⟩
  clear c0 c1 c2 m0 m1 n0 n1
  replace hk := hk.below hb hk.lt
  replace hm := hm.below hb hm.lt
  replace hz2 := Nat.le_trans hz2 hb.size
  replace hn := hn.below hb hn.lt
  replace hB := hB.trans (hb.mono hB.size)
  clear hb
  have c0 := hk.cell_ 0 rfl
  have c1 := hk.cell_ 1 rfl
  have c2 := hk.cell_ 2 rfl
  have m0 := hm.cell_ 0 rfl
  have m1 := hm.cell_ 1 rfl
  have n0 := hn.cell_ 0 rfl
  have n1 := hn.cell_ 1 rfl
  clear HW1
  cases v
  case true =>
    go_wp2_with fail
    refine (kawake_any _).mono ?_
    rintro e W ⟨rfl, hb⟩
    clear c0 c1 c2 m0 m1 n0 n1
    replace hk := hk.below hb hk.lt
    replace hm := hm.below hb hm.lt
    replace hz2 := Nat.le_trans hz2 hb.size
    replace hn := hn.below hb hn.lt
    replace hB := hB.trans (hb.mono hB.size)
    clear hb
    have c0 := hk.cell_ 0 rfl
    have c1 := hk.cell_ 1 rfl
    have c2 := hk.cell_ 2 rfl
    have m0 := hm.cell_ 0 rfl
    have m1 := hm.cell_ 1 rfl
    have n0 := hn.cell_ 0 rfl
    have n1 := hn.cell_ 1 rfl
    go_wp2_with fail
    go_ret
    exact ⟨rfl, hB⟩
  obtain ⟨u, hu⟩ : ∃ u, validK L K l = u := ⟨_, rfl⟩
  have HU := hide hu
  clear hu
  go_wp2_with fail
  refine (refKValidB_is L K A c l _ (hS.on hB) HU.out).mono ?_
  rintro e W ⟨rfl, hb⟩
  clear c0 c1 c2 m0 m1 n0 n1
  replace hk := hk.below hb hk.lt
  replace hm := hm.below hb hm.lt
  replace hz2 := Nat.le_trans hz2 hb.size
  replace hn := hn.below hb hn.lt
  replace hB := hB.trans (hb.mono hB.size)
  clear hb
  have c0 := hk.cell_ 0 rfl
  have c1 := hk.cell_ 1 rfl
  have c2 := hk.cell_ 2 rfl
  have m0 := hm.cell_ 0 rfl
  have m1 := hm.cell_ 1 rfl
  have n0 := hn.cell_ 0 rfl
  have n1 := hn.cell_ 1 rfl
  cases u
  case false =>
    go_wp2_with fail
    refine (kawake_any _).mono ?_
    rintro e W ⟨rfl, hb⟩
    clear c0 c1 c2 m0 m1 n0 n1
    replace hk := hk.below hb hk.lt
    replace hm := hm.below hb hm.lt
    replace hz2 := Nat.le_trans hz2 hb.size
    replace hn := hn.below hb hn.lt
    replace hB := hB.trans (hb.mono hB.size)
    clear hb
    have c0 := hk.cell_ 0 rfl
    have c1 := hk.cell_ 1 rfl
    have c2 := hk.cell_ 2 rfl
    have m0 := hm.cell_ 0 rfl
    have m1 := hm.cell_ 1 rfl
    have n0 := hn.cell_ 0 rfl
    have n1 := hn.cell_ 1 rfl
    go_wp2_with fail
    go_ret
    exact ⟨rfl, hB⟩
  obtain ⟨N, hr⟩ : ∃ N : Nat, tag.tmod 4 = N := ⟨(tag.tmod 4).toNat, by rw [Int.tmod_eq_emod_of_nonneg ht.1]; omega⟩
  have hN : N ≤ 3 := by
    rw [Int.tmod_eq_emod_of_nonneg ht.1] at hr; omega
  clear hn ht
  have hO : Own W (w.heap.size + 2) 73 2 Bt.enc (.slice none 0 0) [] := Own.nil_
  go_wp2_with fail
  clear c0 c1 c2 m0 m1
  go_loopw [7, 8] (fun v y W => ∃ (k : Nat) (es : List Bt), y = .int .i64 k ∧ k ≤ 1001 + N ∧ es.length = k ∧ Blk W w.heap.size 24 #[.int .i64 L, .int .i64 K, .slice A l.length c] ∧ Blk W (w.heap.size + 1) 73 #[.int .i64 p.t, .slice p.A p.n p.c] ∧ w.heap.size + 2 ≤ W.heap.size ∧ Own W (w.heap.size + 2) 73 2 Bt.enc v es ∧ Below w.heap.size w W) (fun v y _ => 1001 + N - (intOf y).toNat)
  case atStart => exact ⟨0, [], rfl, Nat.zero_le _, rfl, hk, hm, hz2, hO, hB⟩
  case round =>
    clear hk hm hO hz2 hB
    obtain ⟨W, rfl⟩ : ∃ W : World, W = wr := ⟨_, rfl⟩
    obtain ⟨k, es, rfl, hkN, hes, hk, hm, hz2, hO, hB⟩ := hrel
    have c0 := hk.cell_ 0 rfl
    have c1 := hk.cell_ 1 rfl
    have c2 := hk.cell_ 2 rfl
    have m0 := hm.cell_ 0 rfl
    have m1 := hm.cell_ 1 rfl
    by_cases hlt : k < 1001 + N
    · go_wp2_with (at_builtin; refine wpList_app _ _ rfl rfl et_batch hO rfl rfl (y := p) rfl rfl rfl (by omega) (by omega) ?_; intro v' W hO' hb hgt; clear c0 c1 c2 m0 m1; replace hk := hk.below hb (by omega); replace hm := hm.below hb (by omega); replace hz2 := Nat.le_trans hz2 hb.size; clear hO; have hO := hO'; clear hO'; replace hB := hB.trans (hb.mono (by omega)); clear hb; have c0 := hk.cell_ 0 rfl; have c1 := hk.cell_ 1 rfl; have c2 := hk.cell_ 2 rfl; have m0 := hm.cell_ 0 rfl; have m1 := hm.cell_ 1 rfl)
      go_roundw
      case rel => exact ⟨k + 1, _, by go_num, by omega, by simp; omega, hk, hm, hz2, hO, hB⟩
      case measure => simp [intOf]; omega
    · have HSH := hide (shaped_long (n := l.length) (bs := es) (by omega))
      obtain ⟨A2, k2, rfl, hS2⟩ := hO.form fun _ => rfl
      have hesl : es.length ≤ 100000 := by omega
      clear hes hO
      go_wp2_with fail
      refine (rollsLong_any L K A c l A2 k2 es _ (hS.on hB) hS2 hesl HU.out HSH.out).mono ?_
      rintro e W ⟨rfl, hb⟩
      clear c0 c1 c2 m0 m1
      replace hk := hk.below hb hk.lt
      replace hm := hm.below hb hm.lt
      replace hz2 := Nat.le_trans hz2 hb.size
      replace hS2 := Slc.on hS2 hb
      replace hB := hB.trans (hb.mono hB.size)
      clear hb
      have c0 := hk.cell_ 0 rfl
      have c1 := hk.cell_ 1 rfl
      have c2 := hk.cell_ 2 rfl
      have m0 := hm.cell_ 0 rfl
      have m1 := hm.cell_ 1 rfl
      go_wp2_with fail
      refine (canonLong_any L K A c l A2 k2 es _ (hS.on hB) hS2 hesl HU.out HSH.out).mono ?_
      rintro e W ⟨rfl, hb⟩
      clear c0 c1 c2 m0 m1
      replace hk := hk.below hb hk.lt
      replace hm := hm.below hb hm.lt
      replace hz2 := Nat.le_trans hz2 hb.size
      replace hS2 := Slc.on hS2 hb
      replace hB := hB.trans (hb.mono hB.size)
      clear hb
      have c0 := hk.cell_ 0 rfl
      have c1 := hk.cell_ 1 rfl
      have c2 := hk.cell_ 2 rfl
      have m0 := hm.cell_ 0 rfl
      have m1 := hm.cell_ 1 rfl
      go_wp2_with fail
      refine (checkLong_any L K A c l A2 k2 es _ (hS.on hB) hS2 hesl HU.out HSH.out).mono ?_
      rintro e W ⟨rfl, hb⟩
      clear c0 c1 c2 m0 m1
      replace hk := hk.below hb hk.lt
      replace hm := hm.below hb hm.lt
      replace hz2 := Nat.le_trans hz2 hb.size
      replace hS2 := Slc.on hS2 hb
      replace hB := hB.trans (hb.mono hB.size)
      clear hb
      have c0 := hk.cell_ 0 rfl
      have c1 := hk.cell_ 1 rfl
      have c2 := hk.cell_ 2 rfl
      have m0 := hm.cell_ 0 rfl
      have m1 := hm.cell_ 1 rfl
      go_wp2_with fail
      refine (kawake_any _).mono ?_
      rintro e W ⟨rfl, hb⟩
      clear c0 c1 c2 m0 m1
      replace hk := hk.below hb hk.lt
      replace hm := hm.below hb hm.lt
      replace hz2 := Nat.le_trans hz2 hb.size
      replace hS2 := Slc.on hS2 hb
      replace hB := hB.trans (hb.mono hB.size)
      clear hb
      have c0 := hk.cell_ 0 rfl
      have c1 := hk.cell_ 1 rfl
      have c2 := hk.cell_ 2 rfl
      have m0 := hm.cell_ 0 rfl
      have m1 := hm.cell_ 1 rfl
      go_wp2_with fail
      go_ret
      exact ⟨rfl, hB⟩
end Go.Proofs.YtecaaimaeaocbaaDoor
