/- CutClashes: the walk. -/
import Derived.Test.YtecaaimaeaocbaaDoorKAwake
import Derived.Test.YtecaaimaeaocbaaDoorKClashR
namespace Go.Proofs.YtecaaimaeaocbaaDoor
open Go Go.RowKit
set_option maxRecDepth 100000 in
set_option maxHeartbeats 2000000 in
theorem clashes_walk (A : Option Addr) (c : Nat) (l : List Pl) (PW PH PK : Int) (w : World) (hS : Slc Pl.enc 5 w w.heap.size A l) (hc : l.length ≤ c) (hl : l.length ≤ maxLen) :
    Calls Tryd.prog 5 #[.slice A l.length c, .agg #[.int .i64 PW, .int .i64 PH, .int .i64 PK]] w fun e w' => e = .returned (.bool true) ∧ Below w.heap.size w w' := by
  unfold maxLen at hl
  have hk := Blk.new w 36 #[.int .i64 PW, .int .i64 PH, .int .i64 PK]
  have hB := (Below.refl w.heap.size w).alloc (Nat.le_refl _) (.cells #[.int .i64 PW, .int .i64 PH, .int .i64 PK] 36)
  have hz : w.heap.size + 1 ≤ (w.alloc (.cells #[.int .i64 PW, .int .i64 PH, .int .i64 PK] 36)).heap.size := by simp
  go_enter Tryd.func5, Tryd.ntmps5
  go_upto_region 1 with fail
  generalize w.alloc (.cells #[.int .i64 PW, .int .i64 PH, .int .i64 PK] 36) = W at *
  have c0 := hk.cell_ 0 rfl
  have c1 := hk.cell_ 1 rfl
  have c2 := hk.cell_ 2 rfl
  by_cases h60 : (60 : Int) < (l.length : Int)
  · go_wp2_with fail
    refine (kawake_any _).mono ?_
    rintro e W ⟨rfl, hb⟩
    clear c0 c1 c2
    replace hk := hk.below hb hk.lt
    replace hB := hB.trans (hb.mono hB.size)
    clear hb
    have c0 := hk.cell_ 0 rfl
    have c1 := hk.cell_ 1 rfl
    have c2 := hk.cell_ 2 rfl
    go_wp2_with fail
    go_ret
    exact ⟨rfl, hB⟩
  go_wp2_with fail
  have hO : Own W (w.heap.size + 1) 38 5 Pl.enc (.slice none 0 0) [] := Own.nil_
  clear c0 c1 c2
  go_loopw [5, 6] (fun v y W => ∃ (z : Int) (es : List Pl), y = .int .i64 z ∧ -1 ≤ z ∧ z < l.length ∧ Hid (es = (l.drop (z + 1).toNat).reverse) ∧ Blk W w.heap.size 36 #[.int .i64 PW, .int .i64 PH, .int .i64 PK] ∧ Own W (w.heap.size + 1) 38 5 Pl.enc v es ∧ w.heap.size + 1 ≤ W.heap.size ∧ Below w.heap.size w W) (fun v y _ => ((intOf y) + 1).toNat)
  case atStart => exact ⟨(l.length : Int) - 1, [], by go_num, by omega, by omega, hide (by rw [show ((l.length : Int) - 1 + 1).toNat = l.length by omega, List.drop_length]; rfl), hk, hO, hz, hB⟩
  case round =>
    clear hk hO hz hB
    obtain ⟨W, rfl⟩ : ∃ W : World, W = wr := ⟨_, rfl⟩
    obtain ⟨z, es, rfl, hz1, hz2, HES, hk, hO, hz, hB⟩ := hrel
    have c0 := hk.cell_ 0 rfl
    have c1 := hk.cell_ 1 rfl
    have c2 := hk.cell_ 2 rfl
    by_cases hlt : 0 ≤ z
    · obtain ⟨k, rfl⟩ : ∃ k : Nat, z = k := ⟨z.toNat, by omega⟩
      obtain ⟨p, b, off, hx, hA, _, d0, d1, d2, d3, d4⟩ := pl_at (k := k) (hS.below hB) (by omega)
      have HE2 : Hid (es ++ [p] = (l.drop ((k : Int) - 1 + 1).toNat).reverse) := by
        show _ = _
        obtain ⟨h1, h2⟩ := List.getElem?_eq_some_iff.1 hx
        rw [HES.out, show ((k : Int) + 1).toNat = k + 1 by omega, show ((k : Int) - 1 + 1).toNat = k by omega, List.drop_eq_getElem_cons h1, h2, List.reverse_cons]
      have hel : es.length + 1 ≤ 60 := by
        have := congrArg List.length HES.out
        simp at this; omega
      clear hx
      subst hA
      go_wp2_with (at_builtin; refine wpList_app _ _ rfl rfl et_place hO rfl rfl (y := p) rfl rfl rfl (by omega) (by omega) ?_; intro v' W hO' hb hgt; clear c0 c1 c2; replace hk := hk.below hb (by omega); clear hO; have hO := hO'; clear hO'; replace hz := Nat.le_trans hz hb.size; replace hB := hB.trans (hb.mono (by omega)); clear hb; have c0 := hk.cell_ 0 rfl; have c1 := hk.cell_ 1 rfl; have c2 := hk.cell_ 2 rfl)
      clear d0 d1 d2 d3 d4
      go_roundw
      case rel => exact ⟨(k : Int) - 1, _, by go_num, by omega, by omega, HE2, hk, hO, hz, hB⟩
      case measure => simp [intOf]
    · obtain rfl : z = -1 := by omega
      have HR : Hid (es = l.reverse) := by show _ = _; rw [HES.out]; rfl
      have HCR : Hid (cB PW PH PK es = cB PW PH PK l ∧ cE PW PH PK es = cE PW PH PK l) := by show _ ∧ _; rw [HR.out, cB_rev, cE_rev]; exact ⟨rfl, rfl⟩
      obtain ⟨A2, k2, rfl, hk2, hS2⟩ := hO.form2 fun _ => rfl
      clear HES HR hO hz
      go_wp2_with fail
      refine (clash_any PW PH PK A c l _ (hS.on hB) hc).mono ?_
      rintro e W ⟨rfl, hb⟩
      clear c0 c1 c2
      replace hk := hk.below hb hk.lt
      replace hS2 := Slc.on hS2 hb
      replace hB := hB.trans (hb.mono hB.size)
      clear hb
      have c0 := hk.cell_ 0 rfl
      have c1 := hk.cell_ 1 rfl
      have c2 := hk.cell_ 2 rfl
      go_wp2_with fail
      refine (refClash_any PW PH PK A c l _ (hS.on hB)).mono ?_
      rintro e W ⟨rfl, hb⟩
      clear c0 c1 c2
      replace hk := hk.below hb hk.lt
      replace hS2 := Slc.on hS2 hb
      replace hB := hB.trans (hb.mono hB.size)
      clear hb
      have c0 := hk.cell_ 0 rfl
      have c1 := hk.cell_ 1 rfl
      have c2 := hk.cell_ 2 rfl
      go_wp2_with fail
      refine (clash_any PW PH PK A2 k2 es _ hS2 hk2).mono ?_
      rintro e W ⟨rfl, hb⟩
      clear c0 c1 c2
      replace hk := hk.below hb hk.lt
      replace hS2 := Slc.on hS2 hb
      replace hB := hB.trans (hb.mono hB.size)
      clear hb
      have c0 := hk.cell_ 0 rfl
      have c1 := hk.cell_ 1 rfl
      have c2 := hk.cell_ 2 rfl
      rw [HCR.out.1, HCR.out.2]
      generalize cB PW PH PK l = d at *
      generalize cE PW PH PK l = E at *
      have hdd : (d == d) = true := by simp
      have hee : (E == E) = true := by simp
      go_wp2_with fail
      refine (kawake_any _).mono ?_
      rintro e W ⟨rfl, hb⟩
      clear c0 c1 c2
      replace hk := hk.below hb hk.lt
      replace hS2 := Slc.on hS2 hb
      replace hB := hB.trans (hb.mono hB.size)
      clear hb
      have c0 := hk.cell_ 0 rfl
      have c1 := hk.cell_ 1 rfl
      have c2 := hk.cell_ 2 rfl
      go_wp2_with fail
      go_ret
      exact ⟨rfl, hB⟩
end Go.Proofs.YtecaaimaeaocbaaDoor
