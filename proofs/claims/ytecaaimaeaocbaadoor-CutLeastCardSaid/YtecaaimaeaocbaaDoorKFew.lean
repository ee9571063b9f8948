/- few of the law: at most so many pieces. -/
import Derived.Test.YtecaaimaeaocbaaDoorKBatch
namespace Go.Proofs.YtecaaimaeaocbaaDoor
open Go Go.RowKit
def cntT (l : List Ask) : Int := (l.map fun a => max 0 a.cnt).sum
def fewB (most : Int) (l : List Ask) : Bool := l.all (fun a => decide (a.cnt ≤ most)) && decide (cntT l ≤ most)
theorem cntT_snoc {l : List Ask} {i : Nat} {a : Ask} (h : l[i]? = some a) : cntT (l.take (i + 1)) = cntT (l.take i) + max 0 a.cnt := by
  unfold cntT
  rw [List.take_add_one, h, Option.toList_some, List.map_append, List.sum_append]; simp
theorem few_all {most : Int} {l : List Ask} (h : l.all (fun a => decide (a.cnt ≤ most)) = false) : fewB most l = false := by unfold fewB; rw [h]; rfl
set_option maxRecDepth 100000 in
set_option maxHeartbeats 1000000 in
theorem few_any (L K : Int) (A : Option Addr) (c : Nat) (l : List Ask) (most : Int) (w : World) (hS : Slc Ask.enc 2 w w.heap.size A l) (hl : l.length ≤ 1000) (hm : 0 ≤ most ∧ most ≤ 100) :
    Calls Tryd.prog 29 #[.agg #[.int .i64 L, .int .i64 K, .slice A l.length c], .int .i64 most] w fun e w' => e = .returned (.bool (fewB most l)) ∧ Below w.heap.size w w' := by
  have hk := Blk.new w 24 #[.int .i64 L, .int .i64 K, .slice A l.length c]
  have hB := (Below.refl w.heap.size w).alloc (Nat.le_refl _) (.cells #[.int .i64 L, .int .i64 K, .slice A l.length c] 24)
  go_enter Tryd.func29, Tryd.ntmps29
  go_upto_region 1 with fail
  generalize w.alloc (.cells #[.int .i64 L, .int .i64 K, .slice A l.length c] 24) = W at *
  have c0 := hk.cell_ 0 rfl
  have c1 := hk.cell_ 1 rfl
  have c2 := hk.cell_ 2 rfl
  have HA : Hid (l.all (fun a => decide (a.cnt ≤ most)) = (l.drop 0).all fun a => decide (a.cnt ≤ most)) := rfl
  go_wp2_with fail
  clear c0 c1 c2
  go_loopw [5, 6] (fun x y W => ∃ (i : Nat) (n : Int), y = .int .i64 i ∧ x = .int .i64 n ∧ i ≤ l.length ∧ (0 ≤ n ∧ n ≤ 100 * i) ∧ Hid (n = cntT (l.take i)) ∧ Hid (l.all (fun a => decide (a.cnt ≤ most)) = (l.drop i).all fun a => decide (a.cnt ≤ most)) ∧ Blk W w.heap.size 24 #[.int .i64 L, .int .i64 K, .slice A l.length c] ∧ Below w.heap.size w W) (fun x y _ => l.length - (intOf y).toNat)
  case atStart => exact ⟨0, 0, rfl, rfl, Nat.zero_le _, ⟨by omega, by omega⟩, hide rfl, HA, hk, hB⟩
  case round =>
    clear hk hB HA
    obtain ⟨W, rfl⟩ : ∃ W : World, W = wr := ⟨_, rfl⟩
    obtain ⟨i, n, rfl, rfl, hi, hn, HN, HA, hk, hB⟩ := hrel
    by_cases hlt : i < l.length
    · obtain ⟨a, b, off, ha, hA, _, d0, d1⟩ := ask_at (hS.on hB) hlt
      have hii : (i : Int) < (l.length : Int) := by omega
      have HX := hide (all_drop (f := fun a : Ask => decide (a.cnt ≤ most)) ha)
      have HS := hide (cntT_snoc ha)
      obtain ⟨ln, cn⟩ := a
      dsimp only at d0 d1 HX HS
      clear ha d0
      subst hA
      have c0 := hk.cell_ 0 rfl
      have c1 := hk.cell_ 1 rfl
      have c2 := hk.cell_ 2 rfl
      by_cases h1 : most < cn
      · have HF : Hid (fewB most l = false) := few_all (by rw [HA.out, HX.out, decide_eq_false (by omega)]; rfl)
        go_wp2_with fail
        go_ret
        exact ⟨ret_bool HF.out.symm, hB⟩
      · have HA2 : Hid (l.all (fun a => decide (a.cnt ≤ most)) = (l.drop (i + 1)).all fun a => decide (a.cnt ≤ most)) := by show _ = _; rw [HA.out, HX.out, decide_eq_true (by omega)]; rfl
        by_cases h2 : (0 : Int) < cn
        · have e1 : IntKind.i64.wrap (n + cn) = n + cn := IntWalk.i64_in _ (by omega)
          have HN2 : Hid (n + cn = cntT (l.take (i + 1))) := by show _ = _; rw [HS.out, HN.out, Int.max_eq_right (by omega)]
          go_wp2_with fail
          go_roundw
          case rel => exact ⟨i + 1, n + cn, by go_num, rfl, by omega, ⟨by omega, by push_cast; omega⟩, HN2, HA2, hk, hB⟩
          case measure => simp [intOf]; omega
        · have e1 : IntKind.i64.wrap (n + 0) = n := by rw [Int.add_zero]; exact IntWalk.i64_in _ (by omega)
          have e2 : IntKind.i64.wrap n = n := IntWalk.i64_in _ (by omega)
          have HN2 : Hid (n = cntT (l.take (i + 1))) := by show _ = _; rw [HS.out, HN.out, Int.max_eq_left (by omega), Int.add_zero]
          go_wp2_with fail
          go_roundw
          case rel => exact ⟨i + 1, n, by go_num, by go_num, by omega, ⟨by omega, by push_cast; omega⟩, HN2, HA2, hk, hB⟩
          case measure => simp [intOf]; omega
    · obtain rfl : i = l.length := by omega
      have HF : Hid (fewB most l = decide (n ≤ most)) := by
        show _ = _
        unfold fewB
        have h := HN.out
        rw [List.take_length] at h
        rw [HA.out, List.drop_length, ← h]; rfl
      have c0 := hk.cell_ 0 rfl
      have c1 := hk.cell_ 1 rfl
      have c2 := hk.cell_ 2 rfl
      by_cases h1 : n ≤ most
      · rw [decide_eq_true h1] at HF
        go_wp2_with fail
        go_ret
        exact ⟨ret_bool HF.out.symm, hB⟩
      · rw [decide_eq_false h1] at HF
        go_wp2_with fail
        go_ret
        exact ⟨ret_bool HF.out.symm, hB⟩
end Go.Proofs.YtecaaimaeaocbaaDoor
