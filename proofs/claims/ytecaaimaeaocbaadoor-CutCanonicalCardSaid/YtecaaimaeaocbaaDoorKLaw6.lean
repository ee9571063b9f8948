/- CutCanonical: the walk. -/
import Derived.Test.YtecaaimaeaocbaaDoorKPairs
import Derived.Deep.DeepCutAuto
namespace Go.Proofs.YtecaaimaeaocbaaDoor
open Go Go.RowKit
theorem u64_mod (v : Int) {n : Nat} (hn : 0 < n) : ∃ q : Nat, q < n ∧ (IntKind.u64.wrap v).tmod (n : Int) = (q : Int) := by
  have h1 : 0 ≤ IntKind.u64.wrap v := by simp [IntKind.wrap, IntKind.signed, IntKind.bits]; omega
  rw [Int.tmod_eq_emod_of_nonneg h1]
  have h3 := Int.emod_nonneg (IntKind.u64.wrap v) (show (n : Int) ≠ 0 by omega)
  have h4 := Int.emod_lt_of_pos (IntKind.u64.wrap v) (show (0 : Int) < n by omega)
  exact ⟨(IntKind.u64.wrap v % (n : Int)).toNat, by omega, by omega⟩
theorem nz_cast {n : Nat} (h : 0 < n) : ((n : Int) == 0) = false := by
  have h2 : (n : Int) ≠ 0 := by omega
  simpa using h2
theorem i64_mod (i : Nat) {n : Nat} (hn : 0 < n) : ∃ q : Nat, q < n ∧ (i : Int).tmod (n : Int) = (q : Int) := by
  rw [Int.tmod_eq_emod_of_nonneg (by omega)]
  have h3 := Int.emod_nonneg (i : Int) (show (n : Int) ≠ 0 by omega)
  have h4 := Int.emod_lt_of_pos (i : Int) (show (0 : Int) < n by omega)
  exact ⟨((i : Int) % (n : Int)).toNat, by omega, by omega⟩
def CanonIs (E : Int) (P : List Bat) (w : World) (e : Ending) (w' : World) : Prop :=
  ∃ A' c' os, e = .returned (.tuple #[.slice A' P.length c', .int .i64 E]) ∧ Below w.heap.size w w' ∧ PlanAt w' A' os P
theorem apiCanon_is (L K : Int) (A : Option Addr) (c : Nat) (l : List Ask) (AB : Option Addr) (cB n : Nat) (bs : List Bt) (pl : List Bat) (w : World) (hS : Slc Ask.enc 2 w w.heap.size A l) (hP : PlanAt w AB bs pl) (hl : pl.length ≤ 100000) (hn : pl.length = n) {E : Int} {P : List Bat} (hE : cnE L K l pl = E) (hPP : cnP L K l pl = P) :
    Calls Tryd.prog 45 #[.agg #[.int .i64 L, .int .i64 K, .slice A l.length c], .slice AB n cB] w (CanonIs E P w) := by
  subst hn hE hPP
  exact apiCanon_any L K A c l AB cB bs pl w hS hP hl
theorem apiRolls_is (L K : Int) (A : Option Addr) (c : Nat) (l : List Ask) (AB : Option Addr) (cB n : Nat) (bs : List Bt) (pl : List Bat) (w : World) (hS : Slc Ask.enc 2 w w.heap.size A l) (hP : PlanAt w AB bs pl) (hl : pl.length ≤ 100000) (hn : pl.length = n) {r E : Int} (hr : rlE L K l pl = r) (hE : chkE L K l pl = E) :
    Calls Tryd.prog 44 #[.agg #[.int .i64 L, .int .i64 K, .slice A l.length c], .slice AB n cB] w fun e w' => e = .returned (.tuple #[.int .i64 r, .int .i64 E]) ∧ Below w.heap.size w w' := by
  subst hn hr hE
  exact apiRolls_any L K A c l AB cB bs pl w hS hP hl
theorem zero_low {pl z : List Bat} (h : ∀ b ∈ pl, 1 ≤ b.t ∧ b.t ≤ 1000) (hn : pl.length ≤ 30) (hp : z.Perm pl) (i : Nat) : 0 ≤ zeroI (z.take i) ∧ zeroI (z.take i) ≤ 30000 := by
  have h1 := rollsI_low ((z.take i).filter fun b => emptyB b.ps) fun b hb => h b (hp.subset (List.mem_of_mem_take (List.mem_filter.1 hb).1))
  have h2 := List.length_filter_le (fun b : Bat => emptyB b.ps) (z.take i)
  have h3 : (z.take i).length ≤ 30 := by
    have := hp.length_eq
    simp; omega
  unfold zeroI
  omega
set_option maxRecDepth 100000 in
set_option maxHeartbeats 16000000 in
theorem canonical_walk (L K : Int) (A : Option Addr) (c : Nat) (l : List Ask) (AB : Option Addr) (cB : Nat) (bs : List Bt) (pl : List Bat) (AY : Option Addr) (cY : Nat) (ys : List Int) (w : World) (hS : Slc Ask.enc 2 w w.heap.size A l) (hP : PlanAt w AB bs pl) (hY : Slc intEnc 1 w w.heap.size AY ys) (hp9 : pl.length ≤ maxLen) (hy9 : ys.length ≤ maxLen) :
    Calls Tryd.prog 14 #[.agg #[.int .i64 L, .int .i64 K, .slice A l.length c], .slice AB pl.length cB, .slice AY ys.length cY] w fun e w' => e = .returned (.bool true) ∧ Below w.heap.size w w' := by
  have hk := Blk.new w 24 #[.int .i64 L, .int .i64 K, .slice A l.length c]
  have hB := (Below.refl w.heap.size w).alloc (Nat.le_refl _) (.cells #[.int .i64 L, .int .i64 K, .slice A l.length c] 24)
  go_enter Tryd.func14, Tryd.ntmps14
  go_upto_region 1 with fail
  generalize w.alloc (.cells #[.int .i64 L, .int .i64 K, .slice A l.length c] 24) = W at *
  have c0 := hk.cell_ 0 rfl
  have c1 := hk.cell_ 1 rfl
  have c2 := hk.cell_ 2 rfl
  obtain ⟨v, hv⟩ : ∃ v, wideP l.length bs = v := ⟨_, rfl⟩
  have HV := hide hv
  clear hv
  go_wp2_with fail
  refine (wide_is L K A c l AB cB pl.length bs _ (hP.on hB).row hP.len HV.out).mono ?_
  rintro e W ⟨rfl, hb⟩
  clear c0 c1 c2
  replace hk := hk.below hb hk.lt
  replace hB := hB.trans (hb.mono hB.size)
  clear hb
  have c0 := hk.cell_ 0 rfl
  have c1 := hk.cell_ 1 rfl
  have c2 := hk.cell_ 2 rfl
  cases v
  case true =>
    go_wp2_with fail
    refine (kawake_any _).mono ?_
    rintro e W ⟨rfl, hb⟩
    clear c0 c1 c2
    replace hk := hk.below hb hk.lt
    replace hB := hB.trans (hb.mono hB.size)
    clear hb
    have c0 := hk.cell_ 0 rfl
    have c1 := hk.cell_ 1 rfl
    have c2 := hk.cell_ 2 rfl
    go_wp2_with fail
    go_ret
    exact ⟨rfl, hB⟩
  by_cases hn3 : (30 : Int) < (pl.length : Int)
  · go_wp2_with fail
    refine (kawake_any _).mono ?_
    rintro e W ⟨rfl, hb⟩
    clear c0 c1 c2
    replace hk := hk.below hb hk.lt
    replace hB := hB.trans (hb.mono hB.size)
    clear hb
    have c0 := hk.cell_ 0 rfl
    have c1 := hk.cell_ 1 rfl
    have c2 := hk.cell_ 2 rfl
    go_wp2_with fail
    go_ret
    exact ⟨rfl, hB⟩
  by_cases hy4 : (40 : Int) < (ys.length : Int)
  · go_wp2_with fail
    refine (kawake_any _).mono ?_
    rintro e W ⟨rfl, hb⟩
    clear c0 c1 c2
    replace hk := hk.below hb hk.lt
    replace hB := hB.trans (hb.mono hB.size)
    clear hb
    have c0 := hk.cell_ 0 rfl
    have c1 := hk.cell_ 1 rfl
    have c2 := hk.cell_ 2 rfl
    go_wp2_with fail
    go_ret
    exact ⟨rfl, hB⟩
  obtain ⟨E, hE⟩ : ∃ E, chkE L K l pl = E := ⟨_, rfl⟩
  have HE := hide hE
  have hl1 : pl.length ≤ 100000 := by omega
  clear hE
  go_wp2_with fail
  refine (refCheck_is L K A c l AB cB bs pl _ (hS.on hB) (hP.on hB) hl1 HE.out).mono ?_
  rintro e W ⟨rfl, hb⟩
  clear c0 c1 c2
  replace hk := hk.below hb hk.lt
  replace hB := hB.trans (hb.mono hB.size)
  clear hb
  have c0 := hk.cell_ 0 rfl
  have c1 := hk.cell_ 1 rfl
  have c2 := hk.cell_ 2 rfl
  by_cases h0 : ¬ E = 0
  · have hne : (E != 0) = true := by simp [h0]
    go_wp2_with fail
    refine (kawake_any _).mono ?_
    rintro e W ⟨rfl, hb⟩
    clear c0 c1 c2
    replace hk := hk.below hb hk.lt
    replace hB := hB.trans (hb.mono hB.size)
    clear hb
    have c0 := hk.cell_ 0 rfl
    have c1 := hk.cell_ 1 rfl
    have c2 := hk.cell_ 2 rfl
    go_wp2_with fail
    go_ret
    exact ⟨rfl, hB⟩
  obtain rfl : E = 0 := Classical.not_not.1 h0
  clear h0
  obtain ⟨hpo, hpS, hpn, hpm⟩ := pairs_of hP
  have HPO := hide hpo
  have HPM := hide hpm
  clear hpo hpm
  go_upto_region 4 with (at_builtin; refine wpList_app_own (base := W.heap.size) (xs := ([] : List (Bt × Bat))) (ys := bs.zip pl) _ _ rfl rfl et_batch (Own.empty_ (Blk.new W 73 #[]) (Nat.le_refl _)) rfl rfl (((hpS.on hB).on ((Below.refl _ W).alloc (Nat.le_refl _) _))) hpn prE_len prE_one (by simp <;> omega) (by simp) ?_; intro v0 W1 hO hb hg)
  rw [List.nil_append] at hO
  have hL : Below W.heap.size W W1 := ((Below.refl _ W).alloc (Nat.le_refl _) (.cells #[] 73)).trans hb
  obtain ⟨A0, k0, rfl, _⟩ := hO.form fun _ => rfl
  have HZ0 : Hid ((bs.zip pl).Perm (bs.zip pl)) := List.Perm.refl _
  have HZ9 : Hid ((bs.zip pl).length = pl.length) := hpn
  rw [hpn] at hO ⊢
  obtain ⟨Z, hZ⟩ : ∃ Z, Z = bs.zip pl := ⟨_, rfl⟩
  rw [← hZ] at hO HZ0 HZ9 HPO HPM
  clear hb hg hpS hpn hZ c0 c1 c2
  have hWz := hk.lt
  replace hk := hk.below hL hWz
  replace hB := hB.trans (hL.mono hB.size)
  obtain ⟨W0, rfl⟩ : ∃ X : World, X = W := ⟨_, rfl⟩
  obtain ⟨W, rfl⟩ : ∃ X : World, X = W1 := ⟨_, rfl⟩
  go_wp2_with fail
  go_loopw [8] (fun y W => ∃ (i : Nat) (z : List (Bt × Bat)), y = .int .i64 i ∧ i ≤ ys.length ∧ Hid (z.Perm Z) ∧ Blk W w.heap.size 24 #[.int .i64 L, .int .i64 K, .slice A l.length c] ∧ Below W0.heap.size W0 W ∧ Own W W0.heap.size 73 2 prE (.slice A0 pl.length k0) z ∧ Below w.heap.size w W) (fun y _ => ys.length - (intOf y).toNat)
  case atStart => exact ⟨0, Z, rfl, Nat.zero_le _, HZ0, hk, hL, hO, hB⟩
  case round =>
    clear hk hB hL hO HZ0
    obtain ⟨W, rfl⟩ : ∃ W : World, W = wr := ⟨_, rfl⟩
    obtain ⟨i, z, rfl, hi, HZ, hk, hL, hO, hB⟩ := hrel
    have c0 := hk.cell_ 0 rfl
    have c1 := hk.cell_ 1 rfl
    have c2 := hk.cell_ 2 rfl
    have HZL : Hid (z.length = pl.length) := HZ.out.length_eq.trans HZ9.out
    by_cases hlt : i < ys.length
    · by_cases hn0 : 0 < pl.length
      · have hii : (i : Int) < (ys.length : Int) := by omega
        have hnn : (0 : Int) < (pl.length : Int) := by omega
        have hnz := nz_cast hn0
        obtain ⟨v, b, off, hv, hA, _, d0⟩ := ints_at' (hY.on hB) hlt
        obtain ⟨a, ha1, ha2⟩ := i64_mod i hn0
        obtain ⟨q, hq1, hq2⟩ := u64_mod v hn0
        have e1 : IntKind.u64.wrap (pl.length : Int) = (pl.length : Int) := by simp [IntKind.wrap, IntKind.signed, IntKind.bits]; omega
        have e2 : IntKind.u64.wrap (q : Int) = (q : Int) := by simp [IntKind.wrap, IntKind.signed, IntKind.bits]; omega
        have e3 : IntKind.i64.wrap (q : Int) = (q : Int) := IntWalk.i64_in _ (by omega)
        have e4 : IntKind.i64.wrap (a : Int) = (a : Int) := IntWalk.i64_in _ (by omega)
        clear hv
        subst hA
        go_wp2_with fail
        refine wp_region_quiet (C := fun w' => ∃ u : Since W, w' = u.w) (by kernel_rfl) (by kernel_rfl) (Since.start W) ?_
        dsimp only
        have y_c0 := Since.cell c0
        have y_c1 := Since.cell c1
        have y_c2 := Since.cell c2
        have y_d0 := Since.cell d0
        clear c0 c1 c2
        repeat (go_big_quiet_step ((fail)))
        refine wpQuiet_nil ?_
        rintro W ⟨⟨_, hb⟩, rfl⟩
        try dsimp only at hb ⊢
        replace d0 : W.cell? _ = _ := y_d0 ⟨W, hb⟩
        clear y_c0 y_c1 y_c2 y_d0
        replace hk := hk.below hb hk.lt
        replace hL := hL.trans (hb.mono (by first | exact Nat.le_refl _ | exact hL.size))
        replace hO := hO.below hb
        replace hB := hB.trans (hb.mono hB.size)
        clear hb
        have c0 := hk.cell_ 0 rfl
        have c1 := hk.cell_ 1 rfl
        have c2 := hk.cell_ 2 rfl
        clear d0 e1 e2 ha2 hq2 hnz
        obtain ⟨x, hx⟩ : ∃ x, z[a]? = some x := ⟨_, List.getElem?_eq_getElem (by rw [HZL.out]; exact ha1)⟩
        obtain ⟨y, hy⟩ : ∃ y, z[q]? = some y := ⟨_, List.getElem?_eq_getElem (by rw [HZL.out]; exact hq1)⟩
        have hSz := hO.slc fun _ => rfl
        obtain ⟨g, js, rfl, hge, hG⟩ := own_blkF hO (by rintro rfl; simp at hx)
        have x0 : W.cell? ⟨g, a * 2, none⟩ = some (.int .i64 x.1.t) := hG.cell_ (a * 2) (blkF_get (f := prE) (n := 2) prE_len hx (j := 0) rfl)
        have x1 : W.cell? ⟨g, a * 2 + 1, none⟩ = some (.slice x.1.A x.1.n x.1.c) := hG.cell_ (a * 2 + 1) (blkF_get (f := prE) (n := 2) prE_len hx (j := 1) rfl)
        have y0 : W.cell? ⟨g, q * 2, none⟩ = some (.int .i64 y.1.t) := hG.cell_ (q * 2) (blkF_get (f := prE) (n := 2) prE_len hy (j := 0) rfl)
        have y1 : W.cell? ⟨g, q * 2 + 1, none⟩ = some (.slice y.1.A y.1.n y.1.c) := hG.cell_ (q * 2 + 1) (blkF_get (f := prE) (n := 2) prE_len hy (j := 1) rfl)
        have hi0 : (a : Int) < (pl.length : Int) := by omega
        have hi1 : (q : Int) < (pl.length : Int) := by omega
        have HXY := hide (And.intro hx hy)
        clear hSz
        obtain ⟨x2, hx2⟩ : ∃ x, (z.set a y)[q]? = some x := ⟨_, List.getElem?_eq_getElem (by rw [List.length_set, HZL.out]; exact hq1)⟩
        obtain ⟨_, o1, _, b1⟩ := put_own hO hx y
        obtain ⟨_, o2, _, b2⟩ := put_own o1 hx2 x
        have HZ2 : Hid (((z.set a y).set q x).Perm Z) := (swap_perm hx hy).trans HZ.out
        have hBB : Below W0.heap.size W (((((W.setCell ⟨g, a * 2, none⟩ (.int .i64 y.1.t)).setCell ⟨g, a * 2 + 1, none⟩ (.slice y.1.A y.1.n y.1.c)).setCell ⟨g, q * 2, none⟩ (.int .i64 x.1.t)).setCell ⟨g, q * 2 + 1, none⟩ (.slice x.1.A x.1.n x.1.c)).drew) := (b1.trans b2).drew
        have o3 : Own (((((W.setCell ⟨g, a * 2, none⟩ (.int .i64 y.1.t)).setCell ⟨g, a * 2 + 1, none⟩ (.slice y.1.A y.1.n y.1.c)).setCell ⟨g, q * 2, none⟩ (.int .i64 x.1.t)).setCell ⟨g, q * 2 + 1, none⟩ (.slice x.1.A x.1.n x.1.c)).drew) W0.heap.size 73 2 prE (.slice (some ⟨g, 0, none⟩) pl.length k0) ((z.set a y).set q x) := o2.drew
        have hsz : a * 2 + 1 < (z.flatMap prE ++ js).toArray.size := (Array.getElem?_eq_some_iff.1 (blkF_get (f := prE) (n := 2) prE_len (js := js) hx (j := 1) rfl)).1
        have hsq : q * 2 + 1 < (z.flatMap prE ++ js).toArray.size := (Array.getElem?_eq_some_iff.1 (blkF_get (f := prE) (n := 2) prE_len (js := js) hy (j := 1) rfl)).1
        have G1 := hG.set_ (a * 2) (.int .i64 y.1.t)
        have G2 := G1.set_ (a * 2 + 1) (.slice y.1.A y.1.n y.1.c)
        have G3 := G2.set_ (q * 2) (.int .i64 x.1.t)
        have f0 : W.frozen? ⟨g, a * 2, none⟩ = false := hG.frozen _
        have f1 := G1.frozen (a * 2 + 1)
        have f2 := G2.frozen (q * 2)
        have f3 := G3.frozen (q * 2 + 1)
        obtain ⟨_, k1⟩ := G1.has (i := a * 2 + 1) (by simp only [Array.size_setIfInBounds]; omega)
        obtain ⟨_, k2⟩ := G2.has (i := q * 2) (by simp only [Array.size_setIfInBounds]; omega)
        obtain ⟨_, k3⟩ := G3.has (i := q * 2 + 1) (by simp only [Array.size_setIfInBounds]; omega)
        have hk2 := hk.below hBB hWz
        have hL2 := hL.trans hBB
        have hB2 := hB.trans (hBB.mono (Nat.le_of_lt hWz))
        clear hx hy hx2 hO o1 o2 b1 b2 hBB hG HXY G1 G2 G3 hsz hsq
        have mixed : Tryd.prog.follows Departure.mixedOrders = true := by kernel_rfl
        go_wp2_with fail
        go_big_region_o
        all_goals go_wp2
        go_roundw
        case rel => exact ⟨i + 1, _, by go_num, by omega, HZ2, hk2, hL2, o3, hB2⟩
        case measure => simp [intOf]; omega
      · have hnn : ¬ (0 : Int) < (pl.length : Int) := by omega
        have hii : (i : Int) < (ys.length : Int) := by omega
        have HSZ := hide (hO.slc fun _ => rfl)
        clear hO hL hi
        have HPZ : Hid (PrOk w z) := PrOk.perm HPO.out HZ.out
        have HZM : Hid ((z.map (·.2)).Perm pl) := by
          have := HZ.out.map (·.2)
          rw [HPM.out] at this
          exact this
        have HOKB := hide (canon_ok HE.out)
        have HCZ := hide (chk_zero HE.out)
        have HLOW : Hid (∀ i, 0 ≤ zeroI ((z.map (·.2)).take i) ∧ zeroI ((z.map (·.2)).take i) ≤ 30000) := fun i => zero_low (fun b hb => (HOKB.out.2 b hb).1) (by omega) HZM.out i
        have HL9 : Hid (l.length ≤ 8) := (validK_iff.1 (chk_zero HE.out).1).few
        have hL0 : ∀ X : World, X = W → Below X.heap.size X W := fun X h => by subst h; exact Below.refl _ _
        have hWz := hk.lt
        obtain ⟨W0, hW0⟩ : ∃ X : World, X = W := ⟨_, rfl⟩
        have hL := hL0 W0 hW0
        rw [← hW0] at hWz HSZ
        have hOs : Own W W0.heap.size 73 2 prE (.slice none 0 0) (splZ (z.take 0)) := Own.nil_
        clear hL0 hW0
        go_wp2_with fail
        clear c0 c1 c2
        go_loopw [11, 12, 13] (fun v e y W => ∃ (i : Nat), y = .int .i64 i ∧ i ≤ pl.length ∧ e = .int .i64 (zeroI ((z.map (·.2)).take i)) ∧ Blk W w.heap.size 24 #[.int .i64 L, .int .i64 K, .slice A l.length c] ∧ Below W0.heap.size W0 W ∧ Own W W0.heap.size 73 2 prE v (splZ (z.take i)) ∧ Below w.heap.size w W) (fun v e y _ => pl.length - (intOf y).toNat)
        case atStart => exact ⟨0, rfl, Nat.zero_le _, rfl, hk, hL, hOs, hB⟩
        case round =>
          clear hk hB hL hOs
          obtain ⟨W, rfl⟩ : ∃ W : World, W = wr := ⟨_, rfl⟩
          obtain ⟨i, rfl, hi, rfl, hk, hL, hOs, hB⟩ := hrel
          obtain ⟨As, cs, rfl, _⟩ := hOs.form fun _ => rfl
          by_cases hlt : i < pl.length
          · exfalso
            omega
          · obtain rfl : i = pl.length := by omega
            have c0 := hk.cell_ 0 rfl
            have c1 := hk.cell_ 1 rfl
            have c2 := hk.cell_ 2 rfl
            have hzl : z.take pl.length = z := by rw [← HZL.out, List.take_length]
            have hzm : (z.map (·.2)).take pl.length = z.map (·.2) := by rw [← HZL.out, ← List.length_map (f := fun x : Bt × Bat => x.2), List.take_length]
            rw [hzl] at hOs ⊢
            rw [hzm]
            have hSs := hOs.slc fun _ => rfl
            have hPs : PlanAt W As ((splZ z).map (·.1)) ((splZ z).map (·.2)) := plan_of_pairs hSs ((splZ_ok HPZ.out).on hB)
            have hsl : ((splZ z).map (·.2)).length = (splZ z).length := List.length_map ..
            have hs2 := splZ_len z
            obtain ⟨cE, cP⟩ := canon_split (m := z.map (·.2)) HE.out (by omega) HZM.out.symm
            rw [splZ_snd] at hPs hsl
            obtain ⟨M, hM⟩ : ∃ M, splitL (z.map (·.2)) = M := ⟨_, rfl⟩
            rw [hM] at hPs hsl cE cP
            have hM9 : M.length ≤ 100000 := by rw [hsl]; have := HZL.out; omega
            obtain ⟨E, hE⟩ : ∃ E, cnE L K l pl = E := ⟨_, rfl⟩
            obtain ⟨P, hPP⟩ : ∃ P, cnP L K l pl = P := ⟨_, rfl⟩
            have H2 := hide (cn_two HE.out)
            have HAG := hide (fun h => canon_again HE.out h)
            have HSM := hide (cnP_small (L := L) (K := K) (l := l) (pl := pl))
            rw [hE] at cE
            rw [hPP] at cP
            rw [hE] at H2
            rw [hPP] at HAG HSM
            have HCE := hide cE
            have HCP := hide cP
            have HEE := hide hE
            have HPP := hide hPP
            have HSL := hide hsl
            have HM9 := hide hM9
            have HZP := hide (zeroI_perm HZM.out)
            have hzb := HLOW.out (z.map (·.2)).length
            rw [List.take_length] at hzb
            obtain ⟨Zr, hZr⟩ : ∃ Zr, zeroI (z.map (·.2)) = Zr := ⟨_, rfl⟩
            rw [hZr] at hzb HZP ⊢
            have HRB : Hid (0 ≤ rlE L K l pl ∧ rlE L K l pl ≤ 1000000) := by
              have h1 := rollsI_take (chk_zero HE.out).2.1 pl.length
              rw [List.take_length] at h1
              show _ ∧ _
              unfold rlE
              rw [if_pos HE.out]
              exact h1
            clear hSs hzl hzm hs2 cE cP hM hM9 hE hPP hsl hZr hOs hL
            have c0 := hk.cell_ 0 rfl
            have c1 := hk.cell_ 1 rfl
            have c2 := hk.cell_ 2 rfl
            go_wp2_with fail
            refine (apiCanon_is L K A c l AB cB pl.length bs pl _ (hS.on hB) (hP.on hB) hl1 rfl HEE.out HPP.out).mono ?_
            rintro e W ⟨A3, k3, os3, rfl, hb, hQ3⟩
            clear c0 c1 c2
            replace hk := hk.below hb hk.lt
            replace hPs := PlanAt.on hPs hb
            replace hB := hB.trans (hb.mono hB.size)
            clear hb
            have c0 := hk.cell_ 0 rfl
            have c1 := hk.cell_ 1 rfl
            have c2 := hk.cell_ 2 rfl
            go_wp2_with fail
            refine (apiCanon_is L K A c l As cs (splZ z).length _ M _ (hS.on hB) hPs HM9.out HSL.out HCE.out HCP.out).mono ?_
            rintro e W ⟨A4, k4, os4, rfl, hb, hQ4⟩
            clear c0 c1 c2
            replace hk := hk.below hb hk.lt
            replace hPs := PlanAt.on hPs hb
            replace hQ3 := PlanAt.on hQ3 hb
            replace hB := hB.trans (hb.mono hB.size)
            clear hb
            have c0 := hk.cell_ 0 rfl
            have c1 := hk.cell_ 1 rfl
            have c2 := hk.cell_ 2 rfl
            rcases H2.out with rfl | rfl
            · obtain ⟨a1, a2, a3, a4, a5⟩ := HAG.out HEE.out
              clear a1
              have HA2 := hide a2
              have HA3 := hide a3
              have HA4 := hide a4
              obtain ⟨r1, hr1⟩ : ∃ r, rlE L K l P = r := ⟨_, rfl⟩
              obtain ⟨r2, hr2⟩ : ∃ r, rlE L K l pl = r := ⟨_, rfl⟩
              have hrb := HRB.out
              rw [hr1, hr2, ← HZP.out] at a5
              rw [hr2] at hrb
              have HR1 := hide hr1
              have HR2 := hide hr2
              have hPl : P.length ≤ 100000 := HSM.out.1
              have e9 : IntKind.i64.wrap (r1 + Zr) = r2 := by rw [a5]; exact IntWalk.i64_in _ (by omega)
              have e8 : (r2 == r2) = true := by simp
              clear a2 a3 a4 a5 hr1 hr2
              go_wp2_with fail
              refine (apiCanon_is L K A c l A3 k3 P.length os3 P _ (hS.on hB) hQ3 hPl rfl HA3.out HA4.out).mono ?_
              rintro e W ⟨A5, k5, os5, rfl, hb, hQ5⟩
              clear c0 c1 c2
              replace hk := hk.below hb hk.lt
              replace hPs := PlanAt.on hPs hb
              replace hQ3 := PlanAt.on hQ3 hb
              replace hQ4 := PlanAt.on hQ4 hb
              replace hB := hB.trans (hb.mono hB.size)
              clear hb
              have c0 := hk.cell_ 0 rfl
              have c1 := hk.cell_ 1 rfl
              have c2 := hk.cell_ 2 rfl
              go_wp2_with fail
              refine (apiRolls_is L K A c l A3 k3 P.length os3 P _ (hS.on hB) hQ3 hPl rfl HR1.out HA2.out).mono ?_
              rintro e W ⟨rfl, hb⟩
              clear c0 c1 c2
              replace hk := hk.below hb hk.lt
              replace hPs := PlanAt.on hPs hb
              replace hQ3 := PlanAt.on hQ3 hb
              replace hQ4 := PlanAt.on hQ4 hb
              replace hQ5 := PlanAt.on hQ5 hb
              replace hB := hB.trans (hb.mono hB.size)
              clear hb
              have c0 := hk.cell_ 0 rfl
              have c1 := hk.cell_ 1 rfl
              have c2 := hk.cell_ 2 rfl
              go_wp2_with fail
              refine (apiRolls_is L K A c l AB cB pl.length bs pl _ (hS.on hB) (hP.on hB) hl1 rfl HR2.out HE.out).mono ?_
              rintro e W ⟨rfl, hb⟩
              clear c0 c1 c2
              replace hk := hk.below hb hk.lt
              replace hPs := PlanAt.on hPs hb
              replace hQ3 := PlanAt.on hQ3 hb
              replace hQ4 := PlanAt.on hQ4 hb
              replace hQ5 := PlanAt.on hQ5 hb
              replace hB := hB.trans (hb.mono hB.size)
              clear hb
              have c0 := hk.cell_ 0 rfl
              have c1 := hk.cell_ 1 rfl
              have c2 := hk.cell_ 2 rfl
              go_wp2_with fail
              refine (samePlan_any A3 k3 os3 A4 k4 os4 P _ hQ3 hQ4 hPl HSM.out.2).mono ?_
              rintro e W ⟨rfl, hb⟩
              clear c0 c1 c2
              replace hk := hk.below hb hk.lt
              replace hPs := PlanAt.on hPs hb
              replace hQ3 := PlanAt.on hQ3 hb
              replace hQ4 := PlanAt.on hQ4 hb
              replace hQ5 := PlanAt.on hQ5 hb
              replace hB := hB.trans (hb.mono hB.size)
              clear hb
              have c0 := hk.cell_ 0 rfl
              have c1 := hk.cell_ 1 rfl
              have c2 := hk.cell_ 2 rfl
              go_wp2_with fail
              refine (samePlan_any A3 k3 os3 A5 k5 os5 P _ hQ3 hQ5 hPl HSM.out.2).mono ?_
              rintro e W ⟨rfl, hb⟩
              clear c0 c1 c2
              replace hk := hk.below hb hk.lt
              replace hPs := PlanAt.on hPs hb
              replace hQ3 := PlanAt.on hQ3 hb
              replace hQ4 := PlanAt.on hQ4 hb
              replace hQ5 := PlanAt.on hQ5 hb
              replace hB := hB.trans (hb.mono hB.size)
              clear hb
              have c0 := hk.cell_ 0 rfl
              have c1 := hk.cell_ 1 rfl
              have c2 := hk.cell_ 2 rfl
              go_wp2_with fail
              refine (kawake_any _).mono ?_
              rintro e W ⟨rfl, hb⟩
              clear c0 c1 c2
              replace hk := hk.below hb hk.lt
              replace hPs := PlanAt.on hPs hb
              replace hQ3 := PlanAt.on hQ3 hb
              replace hQ4 := PlanAt.on hQ4 hb
              replace hQ5 := PlanAt.on hQ5 hb
              replace hB := hB.trans (hb.mono hB.size)
              clear hb
              have c0 := hk.cell_ 0 rfl
              have c1 := hk.cell_ 1 rfl
              have c2 := hk.cell_ 2 rfl
              go_wp2_with fail
              go_ret
              exact ⟨rfl, hB⟩
            · go_wp2_with fail
              refine (kawake_any _).mono ?_
              rintro e W ⟨rfl, hb⟩
              clear c0 c1 c2
              replace hk := hk.below hb hk.lt
              replace hPs := PlanAt.on hPs hb
              replace hQ3 := PlanAt.on hQ3 hb
              replace hQ4 := PlanAt.on hQ4 hb
              replace hB := hB.trans (hb.mono hB.size)
              clear hb
              have c0 := hk.cell_ 0 rfl
              have c1 := hk.cell_ 1 rfl
              have c2 := hk.cell_ 2 rfl
              go_wp2_with fail
              go_ret
              exact ⟨rfl, hB⟩
    · have HSZ := hide (hO.slc fun _ => rfl)
      clear hO hL hi
      have HPZ : Hid (PrOk w z) := PrOk.perm HPO.out HZ.out
      have HZM : Hid ((z.map (·.2)).Perm pl) := by
        have := HZ.out.map (·.2)
        rw [HPM.out] at this
        exact this
      have HOKB := hide (canon_ok HE.out)
      have HCZ := hide (chk_zero HE.out)
      have HLOW : Hid (∀ i, 0 ≤ zeroI ((z.map (·.2)).take i) ∧ zeroI ((z.map (·.2)).take i) ≤ 30000) := fun i => zero_low (fun b hb => (HOKB.out.2 b hb).1) (by omega) HZM.out i
      have HL9 : Hid (l.length ≤ 8) := (validK_iff.1 (chk_zero HE.out).1).few
      have hL0 : ∀ X : World, X = W → Below X.heap.size X W := fun X h => by subst h; exact Below.refl _ _
      have hWz := hk.lt
      obtain ⟨W0, hW0⟩ : ∃ X : World, X = W := ⟨_, rfl⟩
      have hL := hL0 W0 hW0
      rw [← hW0] at hWz HSZ
      have hOs : Own W W0.heap.size 73 2 prE (.slice none 0 0) (splZ (z.take 0)) := Own.nil_
      clear hL0 hW0
      go_wp2_with fail
      clear c0 c1 c2
      go_loopw [11, 12, 13] (fun v e y W => ∃ (i : Nat), y = .int .i64 i ∧ i ≤ pl.length ∧ e = .int .i64 (zeroI ((z.map (·.2)).take i)) ∧ Blk W w.heap.size 24 #[.int .i64 L, .int .i64 K, .slice A l.length c] ∧ Below W0.heap.size W0 W ∧ Own W W0.heap.size 73 2 prE v (splZ (z.take i)) ∧ Below w.heap.size w W) (fun v e y _ => pl.length - (intOf y).toNat)
      case atStart => exact ⟨0, rfl, Nat.zero_le _, rfl, hk, hL, hOs, hB⟩
      case round =>
        clear hk hB hL hOs
        obtain ⟨W, rfl⟩ : ∃ W : World, W = wr := ⟨_, rfl⟩
        obtain ⟨i, rfl, hi, rfl, hk, hL, hOs, hB⟩ := hrel
        obtain ⟨As, cs, rfl, _⟩ := hOs.form fun _ => rfl
        by_cases hlt : i < pl.length
        · obtain ⟨x, b, off, hx, hA, hbl, d0, d1⟩ := pr_at (HSZ.out.on hL) (by rw [HZL.out]; exact hlt)
          have hii : (i : Int) < (pl.length : Int) := by omega
          obtain ⟨hxt, hxn, hxS⟩ := HPZ.out x (List.mem_of_getElem? hx)
          have HX := hide hx
          have hpm : x.2 ∈ pl := HZM.out.subset (List.mem_map.2 ⟨x, List.mem_of_getElem? hx, rfl⟩)
          obtain ⟨hpt, _, _⟩ := HOKB.out.2 x.2 hpm
          obtain ⟨j, hj⟩ := List.getElem?_of_mem hpm
          have HFT : Hid (∀ p ∈ x.2.ps, 0 ≤ p ∧ p ≤ 50) := fits_ok (HCZ.out.2.2 j _ hj)
          have hpl8 : x.2.ps.length ≤ 8 := by rw [(shaped_at HCZ.out.2.1 hj).2]; exact HL9.out
          have hlen2 : (splZ (z.take i)).length ≤ 60 := by
            have h1 := splZ_len (z.take i)
            have h2 : (z.take i).length ≤ i := by simp; omega
            omega
          have HSP := hide (splZ_snoc hx)
          have HZN := hide (zero_snd hx)
          have hWb := hL.size
          have hNE : ∀ k, (Value.slice As (splZ (z.take i)).length cs).ownBlock = some k → k < W.heap.size := fun k hk => (own_ge hOs k hk).2
          obtain ⟨⟨t, Ax, nx, cx⟩, ⟨u, ps⟩⟩ := x
          dsimp only at hxt hxn hxS hpt HFT hpl8 d0 d1 HZN HSP
          subst hxt hxn
          clear hx hj hpm hbl
          have HXS := hide hxS
          clear hxS
          subst hA
          have c0 := hk.cell_ 0 rfl
          have c1 := hk.cell_ 1 rfl
          have c2 := hk.cell_ 2 rfl
          have q_c0 := (hk.alloc (.cells #[.int .i64 t, .slice Ax ps.length cx] 73)).cell_ 0 rfl
          have q_c1 := (hk.alloc (.cells #[.int .i64 t, .slice Ax ps.length cx] 73)).cell_ 1 rfl
          have q_c2 := (hk.alloc (.cells #[.int .i64 t, .slice Ax ps.length cx] 73)).cell_ 2 rfl
          go_upto_region 15 with fail
          clear q_c0 q_c1 q_c2
          clear c0 c1 c2
          have hm := Blk.new W 73 #[.int .i64 t, .slice Ax ps.length cx]
          replace hk := hk.alloc (.cells #[.int .i64 t, .slice Ax ps.length cx] 73)
          replace hL := hL.trans (((Below.refl _ W).alloc (Nat.le_refl _) (.cells #[.int .i64 t, .slice Ax ps.length cx] 73)).mono (by first | exact Nat.le_refl _ | exact hL.size))
          replace hOs := hOs.alloc (.cells #[.int .i64 t, .slice Ax ps.length cx] 73)
          have hsz_bx : (W.alloc (.cells #[.int .i64 t, .slice Ax ps.length cx] 73)).heap.size = W.heap.size + 1 := by simp
          have bxge := hB.size
          replace hB := hB.alloc hB.size (.cells #[.int .i64 t, .slice Ax ps.length cx] 73)
          generalize hbx : W.heap.size = bx at *
          generalize W.alloc (.cells #[.int .i64 t, .slice Ax ps.length cx] 73) = W at *
          clear hbx
          have c0 := hk.cell_ 0 rfl
          have c1 := hk.cell_ 1 rfl
          have c2 := hk.cell_ 2 rfl
          have m0 := hm.cell_ 0 rfl
          have m1 := hm.cell_ 1 rfl
          have HNE : Hid (∀ k, (Value.slice As (splZ (z.take i)).length cs).ownBlock = some k → bx ≠ k) := fun k hk he => by have := hNE k hk; omega
          clear d0 d1 hNE
          go_wp2_with fail
          show Code.wp Tryd.prog _ _ _ _
          clear c0 c1 c2 m0 m1
          go_loopw [15, 16] (fun s y W => ∃ (k : Nat), y = .int .i64 k ∧ k ≤ ps.length ∧ s = .int .i64 (ps.take k).sum ∧ Blk W w.heap.size 24 #[.int .i64 L, .int .i64 K, .slice A l.length c] ∧ Below W0.heap.size W0 W ∧ Own W W0.heap.size 73 2 prE (.slice As (splZ (z.take i)).length cs) (splZ (z.take i)) ∧ Blk W bx 73 #[.int .i64 t, .slice Ax ps.length cx] ∧ Below w.heap.size w W) (fun s y _ => ps.length - (intOf y).toNat)
          case atStart => exact ⟨0, rfl, Nat.zero_le _, rfl, hk, hL, hOs, hm, hB⟩
          case round =>
            clear hk hB hL hOs hm
            obtain ⟨W, rfl⟩ : ∃ W : World, W = wr := ⟨_, rfl⟩
            obtain ⟨k, rfl, hk9, rfl, hk, hL, hOs, hm, hB⟩ := hrel
            have c0 := hk.cell_ 0 rfl
            have c1 := hk.cell_ 1 rfl
            have c2 := hk.cell_ 2 rfl
            have m0 := hm.cell_ 0 rfl
            have m1 := hm.cell_ 1 rfl
            by_cases hkl : k < ps.length
            · obtain ⟨p, b2, off2, hp, hA2, hb2, e0⟩ := ints_at' (HXS.out.on hB) hkl
              have hkk : (k : Int) < (ps.length : Int) := by omega
              have HSS := hide (sum_snoc hp)
              have hp1 := HFT.out p (List.mem_of_getElem? hp)
              have hsl := sum_low (ps := ps.take k) fun q hq => HFT.out q (List.mem_of_mem_take hq)
              have hs8 : (ps.take k).length ≤ 8 := by simp; omega
              obtain ⟨S, hSm⟩ : ∃ S, (ps.take k).sum = S := ⟨_, rfl⟩
              rw [hSm] at hsl ⊢
              have e1 : IntKind.i64.wrap (S + p) = S + p := IntWalk.i64_in _ (by omega)
              have HSM := hide hSm
              subst hA2
              clear hp hSm
              go_wp2_with fail
              go_roundw
              case rel => exact ⟨k + 1, by go_num, by omega, by rw [HSS.out, HSM.out], hk, hL, hOs, hm, hB⟩
              case measure => simp [intOf]; omega
            · obtain rfl : k = ps.length := by omega
              rw [List.take_length]
              have hse := sum_empty (ps := ps) fun p hp => (HFT.out p hp).1
              obtain ⟨S, hSm⟩ : ∃ S, ps.sum = S := ⟨_, rfl⟩
              rw [hSm] at hse ⊢
              have hzl := HLOW.out i
              obtain ⟨Zr, hZr⟩ : ∃ Zr, zeroI ((z.map (·.2)).take i) = Zr := ⟨_, rfl⟩
              rw [hZr] at hzl HZN ⊢
              clear hSm hZr
              by_cases hs0 : S = 0
              · have HZ2 : Hid (zeroI ((z.map (·.2)).take (i + 1)) = Zr + t) := by show _ = _; rw [HZN.out, ← hse, decide_eq_true hs0, if_pos rfl]
                have e1 : IntKind.i64.wrap (Zr + t) = Zr + t := IntWalk.i64_in _ (by omega)
                subst hs0
                clear hse
                by_cases ht : 1 < t
                · have HS2 : Hid (splZ (z.take (i + 1)) = (splZ (z.take i) ++ [((⟨1, Ax, ps.length, cx⟩ : Bt), (⟨1, ps⟩ : Bat))]) ++ [((⟨t - 1, Ax, ps.length, cx⟩ : Bt), (⟨t - 1, ps⟩ : Bat))]) := by
                    show _ = _
                    rw [HSP.out, List.append_assoc]
                    exact congrArg _ (if_pos ht)
                  have e2 : IntKind.i64.wrap (t - 1) = t - 1 := IntWalk.i64_in _ (by omega)
                  have hz0 := hL.size
                  go_upto_region 24 with (at_builtin; refine wpList_app_own2 (base := W0.heap.size) (ys := [((⟨1, Ax, ps.length, cx⟩ : Bt), (⟨1, ps⟩ : Bat))]) _ _ rfl rfl et_batch (hOs.alloc _) rfl rfl ((Blk.new W 73 #[.int .i64 1, .slice Ax ps.length cx]).slc1 rfl) rfl prE_len prE_one (by simp <;> omega) (by simp <;> omega) ?_; intro v2 W2 o2 hb2 hg2 hv2)
                  have hz2 : bx < (W.alloc (.cells #[.int .i64 1, .slice Ax ps.length cx] 73)).heap.size := Nat.lt_of_lt_of_le hm.lt (by simp)
                  have hm2 := (hm.alloc (.cells #[.int .i64 1, .slice Ax ps.length cx] 73)).grownv hg2 HNE.out
                  have hBW2 : Below W0.heap.size W W2 := ((Below.refl _ W).alloc hL.size (.cells #[.int .i64 1, .slice Ax ps.length cx] 73)).trans hb2
                  have hk2 := hk.below hBW2 hWz
                  have hB2 := hB.trans (hBW2.mono (Nat.le_of_lt hWz))
                  have hL2 := hL.trans hBW2
                  have HN2 : Hid (∀ k, v2.ownBlock = some k → some bx ≠ some k) := fun k hk he => by
                    injection he with he
                    rcases hv2 k hk with h | h
                    · omega
                    · exact HNE.out k h he
                  clear hk hB hL hOs hm hb2 hg2 hv2 hBW2 m0 m1 c0 c1 c2 hz2
                  have m0 := hm2.cell_ 0 rfl
                  go_upto_region 25 with (refine wpList_store_at rfl 3 _ _ rfl (.int .i64 (t - 1)) hm2 rfl rfl (by kernel_rfl) rfl (by simp) rfl ?_; intro W3 hm3 hc3)
                  have hg3 : W2.grownBy W3 (some bx) := ⟨hc3.os, hc3.tape, hc3.output, hc3.size, fun k hk hne => hc3.block k hk fun e => hne (by rw [e])⟩
                  have o3 := own_kept o2 hg3 HN2.out
                  have hk3 := hk2.chg1 hc3 (by omega)
                  have hB3 := hB2.trans (hc3.below1 hB2.size (by omega))
                  have hL3 := hL2.trans (hc3.below1 hL2.size hWb)
                  have hm3 : Blk W3 bx 73 #[.int .i64 (t - 1), .slice Ax ps.length cx] := hm3
                  clear hk2 hB2 hL2 o2 hm2 hc3 hg3 m0
                  have m0 := hm3.cell_ 0 rfl
                  have m1 := hm3.cell_ 1 rfl
                  have hz3 := hL3.size
                  go_wp2_with (at_builtin; refine wpList_app_own2 (base := W0.heap.size) (ys := [((⟨t - 1, Ax, ps.length, cx⟩ : Bt), (⟨t - 1, ps⟩ : Bat))]) _ _ rfl rfl et_batch (o3.alloc _) rfl rfl ((Blk.new W3 73 #[.int .i64 (t - 1), .slice Ax ps.length cx]).slc1 rfl) rfl prE_len prE_one (by simp <;> omega) (by simp <;> omega) ?_; intro v4 W4 o4 hb4 hg4 hv4)
                  have hBW4 : Below W0.heap.size W3 W4 := ((Below.refl _ W3).alloc hz3 (.cells #[.int .i64 (t - 1), .slice Ax ps.length cx] 73)).trans hb4
                  go_roundw
                  case rel => exact ⟨i + 1, by go_num, by omega, by rw [HZ2.out], hk3.below hBW4 hWz, hL3.trans hBW4, by rw [HS2.out]; exact o4, hB3.trans (hBW4.mono (Nat.le_of_lt hWz))⟩
                  case measure => simp [intOf]; omega
                · have HS2 : Hid (splZ (z.take (i + 1)) = splZ (z.take i) ++ [((⟨t, Ax, ps.length, cx⟩ : Bt), (⟨t, ps⟩ : Bat))]) := by
                    show _ = _
                    rw [HSP.out]
                    exact congrArg _ (if_neg ht)
                  have hz3 := hL.size
                  go_wp2_with (at_builtin; refine wpList_app_own2 (base := W0.heap.size) (ys := [((⟨t, Ax, ps.length, cx⟩ : Bt), (⟨t, ps⟩ : Bat))]) _ _ rfl rfl et_batch (hOs.alloc _) rfl rfl ((Blk.new W 73 #[.int .i64 t, .slice Ax ps.length cx]).slc1 rfl) rfl prE_len prE_one (by simp <;> omega) (by simp <;> omega) ?_; intro v4 W4 o4 hb4 hg4 hv4)
                  have hBW4 : Below W0.heap.size W W4 := ((Below.refl _ W).alloc hz3 (.cells #[.int .i64 t, .slice Ax ps.length cx] 73)).trans hb4
                  go_roundw
                  case rel => exact ⟨i + 1, by go_num, by omega, by rw [HZ2.out], hk.below hBW4 hWz, hL.trans hBW4, by rw [HS2.out]; exact o4, hB.trans (hBW4.mono (Nat.le_of_lt hWz))⟩
                  case measure => simp [intOf]; omega
              · have HZ2 : Hid (zeroI ((z.map (·.2)).take (i + 1)) = Zr) := by show _ = _; rw [HZN.out, ← hse, decide_eq_false hs0, if_neg (by decide), Int.add_zero]
                have hsq : (S == 0) = false := by simpa using hs0
                clear hse hs0
                by_cases ht : 1 < t
                · have HS2 : Hid (splZ (z.take (i + 1)) = (splZ (z.take i) ++ [((⟨1, Ax, ps.length, cx⟩ : Bt), (⟨1, ps⟩ : Bat))]) ++ [((⟨t - 1, Ax, ps.length, cx⟩ : Bt), (⟨t - 1, ps⟩ : Bat))]) := by
                    show _ = _
                    rw [HSP.out, List.append_assoc]
                    exact congrArg _ (if_pos ht)
                  have e2 : IntKind.i64.wrap (t - 1) = t - 1 := IntWalk.i64_in _ (by omega)
                  have hz0 := hL.size
                  go_upto_region 24 with (at_builtin; refine wpList_app_own2 (base := W0.heap.size) (ys := [((⟨1, Ax, ps.length, cx⟩ : Bt), (⟨1, ps⟩ : Bat))]) _ _ rfl rfl et_batch (hOs.alloc _) rfl rfl ((Blk.new W 73 #[.int .i64 1, .slice Ax ps.length cx]).slc1 rfl) rfl prE_len prE_one (by simp <;> omega) (by simp <;> omega) ?_; intro v2 W2 o2 hb2 hg2 hv2)
                  have hz2 : bx < (W.alloc (.cells #[.int .i64 1, .slice Ax ps.length cx] 73)).heap.size := Nat.lt_of_lt_of_le hm.lt (by simp)
                  have hm2 := (hm.alloc (.cells #[.int .i64 1, .slice Ax ps.length cx] 73)).grownv hg2 HNE.out
                  have hBW2 : Below W0.heap.size W W2 := ((Below.refl _ W).alloc hL.size (.cells #[.int .i64 1, .slice Ax ps.length cx] 73)).trans hb2
                  have hk2 := hk.below hBW2 hWz
                  have hB2 := hB.trans (hBW2.mono (Nat.le_of_lt hWz))
                  have hL2 := hL.trans hBW2
                  have HN2 : Hid (∀ k, v2.ownBlock = some k → some bx ≠ some k) := fun k hk he => by
                    injection he with he
                    rcases hv2 k hk with h | h
                    · omega
                    · exact HNE.out k h he
                  clear hk hB hL hOs hm hb2 hg2 hv2 hBW2 m0 m1 c0 c1 c2 hz2
                  have m0 := hm2.cell_ 0 rfl
                  go_upto_region 25 with (refine wpList_store_at rfl 3 _ _ rfl (.int .i64 (t - 1)) hm2 rfl rfl (by kernel_rfl) rfl (by simp) rfl ?_; intro W3 hm3 hc3)
                  have hg3 : W2.grownBy W3 (some bx) := ⟨hc3.os, hc3.tape, hc3.output, hc3.size, fun k hk hne => hc3.block k hk fun e => hne (by rw [e])⟩
                  have o3 := own_kept o2 hg3 HN2.out
                  have hk3 := hk2.chg1 hc3 (by omega)
                  have hB3 := hB2.trans (hc3.below1 hB2.size (by omega))
                  have hL3 := hL2.trans (hc3.below1 hL2.size hWb)
                  have hm3 : Blk W3 bx 73 #[.int .i64 (t - 1), .slice Ax ps.length cx] := hm3
                  clear hk2 hB2 hL2 o2 hm2 hc3 hg3 m0
                  have m0 := hm3.cell_ 0 rfl
                  have m1 := hm3.cell_ 1 rfl
                  have hz3 := hL3.size
                  go_wp2_with (at_builtin; refine wpList_app_own2 (base := W0.heap.size) (ys := [((⟨t - 1, Ax, ps.length, cx⟩ : Bt), (⟨t - 1, ps⟩ : Bat))]) _ _ rfl rfl et_batch (o3.alloc _) rfl rfl ((Blk.new W3 73 #[.int .i64 (t - 1), .slice Ax ps.length cx]).slc1 rfl) rfl prE_len prE_one (by simp <;> omega) (by simp <;> omega) ?_; intro v4 W4 o4 hb4 hg4 hv4)
                  have hBW4 : Below W0.heap.size W3 W4 := ((Below.refl _ W3).alloc hz3 (.cells #[.int .i64 (t - 1), .slice Ax ps.length cx] 73)).trans hb4
                  go_roundw
                  case rel => exact ⟨i + 1, by go_num, by omega, by rw [HZ2.out], hk3.below hBW4 hWz, hL3.trans hBW4, by rw [HS2.out]; exact o4, hB3.trans (hBW4.mono (Nat.le_of_lt hWz))⟩
                  case measure => simp [intOf]; omega
                · have HS2 : Hid (splZ (z.take (i + 1)) = splZ (z.take i) ++ [((⟨t, Ax, ps.length, cx⟩ : Bt), (⟨t, ps⟩ : Bat))]) := by
                    show _ = _
                    rw [HSP.out]
                    exact congrArg _ (if_neg ht)
                  have hz3 := hL.size
                  go_wp2_with (at_builtin; refine wpList_app_own2 (base := W0.heap.size) (ys := [((⟨t, Ax, ps.length, cx⟩ : Bt), (⟨t, ps⟩ : Bat))]) _ _ rfl rfl et_batch (hOs.alloc _) rfl rfl ((Blk.new W 73 #[.int .i64 t, .slice Ax ps.length cx]).slc1 rfl) rfl prE_len prE_one (by simp <;> omega) (by simp <;> omega) ?_; intro v4 W4 o4 hb4 hg4 hv4)
                  have hBW4 : Below W0.heap.size W W4 := ((Below.refl _ W).alloc hz3 (.cells #[.int .i64 t, .slice Ax ps.length cx] 73)).trans hb4
                  go_roundw
                  case rel => exact ⟨i + 1, by go_num, by omega, by rw [HZ2.out], hk.below hBW4 hWz, hL.trans hBW4, by rw [HS2.out]; exact o4, hB.trans (hBW4.mono (Nat.le_of_lt hWz))⟩
                  case measure => simp [intOf]; omega
        · obtain rfl : i = pl.length := by omega
          have c0 := hk.cell_ 0 rfl
          have c1 := hk.cell_ 1 rfl
          have c2 := hk.cell_ 2 rfl
          have hzl : z.take pl.length = z := by rw [← HZL.out, List.take_length]
          have hzm : (z.map (·.2)).take pl.length = z.map (·.2) := by rw [← HZL.out, ← List.length_map (f := fun x : Bt × Bat => x.2), List.take_length]
          rw [hzl] at hOs ⊢
          rw [hzm]
          have hSs := hOs.slc fun _ => rfl
          have hPs : PlanAt W As ((splZ z).map (·.1)) ((splZ z).map (·.2)) := plan_of_pairs hSs ((splZ_ok HPZ.out).on hB)
          have hsl : ((splZ z).map (·.2)).length = (splZ z).length := List.length_map ..
          have hs2 := splZ_len z
          obtain ⟨cE, cP⟩ := canon_split (m := z.map (·.2)) HE.out (by omega) HZM.out.symm
          rw [splZ_snd] at hPs hsl
          obtain ⟨M, hM⟩ : ∃ M, splitL (z.map (·.2)) = M := ⟨_, rfl⟩
          rw [hM] at hPs hsl cE cP
          have hM9 : M.length ≤ 100000 := by rw [hsl]; have := HZL.out; omega
          obtain ⟨E, hE⟩ : ∃ E, cnE L K l pl = E := ⟨_, rfl⟩
          obtain ⟨P, hPP⟩ : ∃ P, cnP L K l pl = P := ⟨_, rfl⟩
          have H2 := hide (cn_two HE.out)
          have HAG := hide (fun h => canon_again HE.out h)
          have HSM := hide (cnP_small (L := L) (K := K) (l := l) (pl := pl))
          rw [hE] at cE
          rw [hPP] at cP
          rw [hE] at H2
          rw [hPP] at HAG HSM
          have HCE := hide cE
          have HCP := hide cP
          have HEE := hide hE
          have HPP := hide hPP
          have HSL := hide hsl
          have HM9 := hide hM9
          have HZP := hide (zeroI_perm HZM.out)
          have hzb := HLOW.out (z.map (·.2)).length
          rw [List.take_length] at hzb
          obtain ⟨Zr, hZr⟩ : ∃ Zr, zeroI (z.map (·.2)) = Zr := ⟨_, rfl⟩
          rw [hZr] at hzb HZP ⊢
          have HRB : Hid (0 ≤ rlE L K l pl ∧ rlE L K l pl ≤ 1000000) := by
            have h1 := rollsI_take (chk_zero HE.out).2.1 pl.length
            rw [List.take_length] at h1
            show _ ∧ _
            unfold rlE
            rw [if_pos HE.out]
            exact h1
          clear hSs hzl hzm hs2 cE cP hM hM9 hE hPP hsl hZr hOs hL
          have c0 := hk.cell_ 0 rfl
          have c1 := hk.cell_ 1 rfl
          have c2 := hk.cell_ 2 rfl
          go_wp2_with fail
          refine (apiCanon_is L K A c l AB cB pl.length bs pl _ (hS.on hB) (hP.on hB) hl1 rfl HEE.out HPP.out).mono ?_
          rintro e W ⟨A3, k3, os3, rfl, hb, hQ3⟩
          clear c0 c1 c2
          replace hk := hk.below hb hk.lt
          replace hPs := PlanAt.on hPs hb
          replace hB := hB.trans (hb.mono hB.size)
          clear hb
          have c0 := hk.cell_ 0 rfl
          have c1 := hk.cell_ 1 rfl
          have c2 := hk.cell_ 2 rfl
          go_wp2_with fail
          refine (apiCanon_is L K A c l As cs (splZ z).length _ M _ (hS.on hB) hPs HM9.out HSL.out HCE.out HCP.out).mono ?_
          rintro e W ⟨A4, k4, os4, rfl, hb, hQ4⟩
          clear c0 c1 c2
          replace hk := hk.below hb hk.lt
          replace hPs := PlanAt.on hPs hb
          replace hQ3 := PlanAt.on hQ3 hb
          replace hB := hB.trans (hb.mono hB.size)
          clear hb
          have c0 := hk.cell_ 0 rfl
          have c1 := hk.cell_ 1 rfl
          have c2 := hk.cell_ 2 rfl
          rcases H2.out with rfl | rfl
          · obtain ⟨a1, a2, a3, a4, a5⟩ := HAG.out HEE.out
            clear a1
            have HA2 := hide a2
            have HA3 := hide a3
            have HA4 := hide a4
            obtain ⟨r1, hr1⟩ : ∃ r, rlE L K l P = r := ⟨_, rfl⟩
            obtain ⟨r2, hr2⟩ : ∃ r, rlE L K l pl = r := ⟨_, rfl⟩
            have hrb := HRB.out
            rw [hr1, hr2, ← HZP.out] at a5
            rw [hr2] at hrb
            have HR1 := hide hr1
            have HR2 := hide hr2
            have hPl : P.length ≤ 100000 := HSM.out.1
            have e9 : IntKind.i64.wrap (r1 + Zr) = r2 := by rw [a5]; exact IntWalk.i64_in _ (by omega)
            have e8 : (r2 == r2) = true := by simp
            clear a2 a3 a4 a5 hr1 hr2
            go_wp2_with fail
            refine (apiCanon_is L K A c l A3 k3 P.length os3 P _ (hS.on hB) hQ3 hPl rfl HA3.out HA4.out).mono ?_
            rintro e W ⟨A5, k5, os5, rfl, hb, hQ5⟩
            clear c0 c1 c2
            replace hk := hk.below hb hk.lt
            replace hPs := PlanAt.on hPs hb
            replace hQ3 := PlanAt.on hQ3 hb
            replace hQ4 := PlanAt.on hQ4 hb
            replace hB := hB.trans (hb.mono hB.size)
            clear hb
            have c0 := hk.cell_ 0 rfl
            have c1 := hk.cell_ 1 rfl
            have c2 := hk.cell_ 2 rfl
            go_wp2_with fail
            refine (apiRolls_is L K A c l A3 k3 P.length os3 P _ (hS.on hB) hQ3 hPl rfl HR1.out HA2.out).mono ?_
            rintro e W ⟨rfl, hb⟩
            clear c0 c1 c2
            replace hk := hk.below hb hk.lt
            replace hPs := PlanAt.on hPs hb
            replace hQ3 := PlanAt.on hQ3 hb
            replace hQ4 := PlanAt.on hQ4 hb
            replace hQ5 := PlanAt.on hQ5 hb
            replace hB := hB.trans (hb.mono hB.size)
            clear hb
            have c0 := hk.cell_ 0 rfl
            have c1 := hk.cell_ 1 rfl
            have c2 := hk.cell_ 2 rfl
            go_wp2_with fail
            refine (apiRolls_is L K A c l AB cB pl.length bs pl _ (hS.on hB) (hP.on hB) hl1 rfl HR2.out HE.out).mono ?_
            rintro e W ⟨rfl, hb⟩
            clear c0 c1 c2
            replace hk := hk.below hb hk.lt
            replace hPs := PlanAt.on hPs hb
            replace hQ3 := PlanAt.on hQ3 hb
            replace hQ4 := PlanAt.on hQ4 hb
            replace hQ5 := PlanAt.on hQ5 hb
            replace hB := hB.trans (hb.mono hB.size)
            clear hb
            have c0 := hk.cell_ 0 rfl
            have c1 := hk.cell_ 1 rfl
            have c2 := hk.cell_ 2 rfl
            go_wp2_with fail
            refine (samePlan_any A3 k3 os3 A4 k4 os4 P _ hQ3 hQ4 hPl HSM.out.2).mono ?_
            rintro e W ⟨rfl, hb⟩
            clear c0 c1 c2
            replace hk := hk.below hb hk.lt
            replace hPs := PlanAt.on hPs hb
            replace hQ3 := PlanAt.on hQ3 hb
            replace hQ4 := PlanAt.on hQ4 hb
            replace hQ5 := PlanAt.on hQ5 hb
            replace hB := hB.trans (hb.mono hB.size)
            clear hb
            have c0 := hk.cell_ 0 rfl
            have c1 := hk.cell_ 1 rfl
            have c2 := hk.cell_ 2 rfl
            go_wp2_with fail
            refine (samePlan_any A3 k3 os3 A5 k5 os5 P _ hQ3 hQ5 hPl HSM.out.2).mono ?_
            rintro e W ⟨rfl, hb⟩
            clear c0 c1 c2
            replace hk := hk.below hb hk.lt
            replace hPs := PlanAt.on hPs hb
            replace hQ3 := PlanAt.on hQ3 hb
            replace hQ4 := PlanAt.on hQ4 hb
            replace hQ5 := PlanAt.on hQ5 hb
            replace hB := hB.trans (hb.mono hB.size)
            clear hb
            have c0 := hk.cell_ 0 rfl
            have c1 := hk.cell_ 1 rfl
            have c2 := hk.cell_ 2 rfl
            go_wp2_with fail
            refine (kawake_any _).mono ?_
            rintro e W ⟨rfl, hb⟩
            clear c0 c1 c2
            replace hk := hk.below hb hk.lt
            replace hPs := PlanAt.on hPs hb
            replace hQ3 := PlanAt.on hQ3 hb
            replace hQ4 := PlanAt.on hQ4 hb
            replace hQ5 := PlanAt.on hQ5 hb
            replace hB := hB.trans (hb.mono hB.size)
            clear hb
            have c0 := hk.cell_ 0 rfl
            have c1 := hk.cell_ 1 rfl
            have c2 := hk.cell_ 2 rfl
            go_wp2_with fail
            go_ret
            exact ⟨rfl, hB⟩
          · go_wp2_with fail
            refine (kawake_any _).mono ?_
            rintro e W ⟨rfl, hb⟩
            clear c0 c1 c2
            replace hk := hk.below hb hk.lt
            replace hPs := PlanAt.on hPs hb
            replace hQ3 := PlanAt.on hQ3 hb
            replace hQ4 := PlanAt.on hQ4 hb
            replace hB := hB.trans (hb.mono hB.size)
            clear hb
            have c0 := hk.cell_ 0 rfl
            have c1 := hk.cell_ 1 rfl
            have c2 := hk.cell_ 2 rfl
            go_wp2_with fail
            go_ret
            exact ⟨rfl, hB⟩
theorem canonical_n (L K : Int) (A : Option Addr) (c : Nat) (l : List Ask) (AB : Option Addr) (cB : Nat) (bs : List Bt) (pl : List Bat) (AY : Option Addr) (cY : Nat) (ys : List Int) (w : World) (hS : Slc Ask.enc 2 w w.heap.size A l) (hP : PlanAt w AB bs pl) (hY : Slc intEnc 1 w w.heap.size AY ys) (hp9 : bs.length ≤ maxLen) (hy9 : ys.length ≤ maxLen) :
    Calls Tryd.prog 14 #[.agg #[.int .i64 L, .int .i64 K, .slice A l.length c], .slice AB bs.length cB, .slice AY ys.length cY] w fun e w' => e = .returned (.bool true) ∧ Below w.heap.size w w' := by
  rw [hP.len] at hp9 ⊢
  exact canonical_walk L K A c l AB cB bs pl AY cY ys w hS hP hY hp9 hy9
end Go.Proofs.YtecaaimaeaocbaaDoor
