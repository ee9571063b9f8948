/- Whether a plan is wide; Judge of package shop: the walks. -/
import Derived.Test.YtcpnfcnobnjhdaaJudge
namespace Go.Proofs.Ytcpnfcnobnjhdaa
open Go.RowKit
def wideB (pl : List (List Int)) : Bool := decide (30 < pl.length) || pl.any fun l => decide (20 < l.length)
set_option maxRecDepth 100000 in
theorem wide_any (A : Option Addr) (c : Nat) (pl : List (List Int)) (w : World) (hP : Plan w w.heap.size A pl) (hf : PFits pl) :
    Calls Try.prog 36 #[.slice A pl.length c] w fun e w' => e = .returned (.bool (wideB pl)) ∧ Below w.heap.size w w' := by
  have hf1 := hf.h1
  have HV : Hid (wideB pl = (decide (30 < pl.length) || pl.any fun l => decide (20 < l.length))) := rfl
  by_cases hbig : 30 < pl.length
  · have hbz : (30 : Int) < (pl.length : Int) := by omega
    go_enter Try.func36, Try.ntmps36
    go_wp2_with fail
    go_ret
    exact ⟨ret_bool (by rw [HV.out, decide_eq_true hbig]; rfl), Below.refl _ _⟩
  · have hbz : ¬ (30 : Int) < (pl.length : Int) := by omega
    have HV2 : Hid (wideB pl = pl.any fun l => decide (20 < l.length)) := by show _ = _; rw [HV.out, decide_eq_false hbig]; rfl
    clear HV
    go_enter Try.func36, Try.ntmps36
    go_wp2_with fail
    go_loopw [3] (fun x W => ∃ i : Nat, x = .int .i64 i ∧ i ≤ pl.length ∧ Hid (wideB pl = (pl.drop i).any fun l => decide (20 < l.length)) ∧ Below w.heap.size w W) (fun x _ => pl.length - (intOf x).toNat)
    case atStart => exact ⟨0, rfl, Nat.zero_le _, HV2, Below.refl _ _⟩
    case round =>
      obtain ⟨i, rfl, hi, HS, hB⟩ := hrel
      by_cases hlt : i < pl.length
      · obtain ⟨l, hl⟩ : ∃ l, pl[i]? = some l := ⟨_, List.getElem?_eq_getElem hlt⟩
        obtain ⟨b, off, A', c', rfl, hb0, hc, _⟩ := plan_at (hP.on hB) hl
        have hll := hf.h2 l (List.mem_of_getElem? hl)
        have HST := hide (any_drop (f := fun l : List Int => decide (20 < l.length)) hl)
        clear hl
        by_cases h20 : 20 < l.length
        · have hz : (20 : Int) < (l.length : Int) := by omega
          go_wp2_with fail
          go_ret
          exact ⟨ret_bool (by rw [HS.out, HST.out, decide_eq_true h20]; rfl), hB⟩
        · have hz : ¬ (20 : Int) < (l.length : Int) := by omega
          go_wp2_with fail
          go_roundw
          case rel => exact ⟨i + 1, by go_num, by omega, (by show _ = _; rw [HS.out, HST.out, decide_eq_false h20]; rfl), hB⟩
          case measure => simp [intOf]; omega
      · obtain rfl : i = pl.length := by omega
        go_wp2_with fail
        go_ret
        exact ⟨ret_bool (by rw [HS.out, nomore]; rfl), hB⟩
theorem apiJudge_any (s : Sh) (A : Option Addr) (c : Nat) (pl : List (List Int)) (w : World) (hS : ShAt w w.heap.size s) (hvB : validShop s.p = true) (hP : Plan w w.heap.size A pl) (hf : PFits pl) :
    Calls Try.prog 37 #[.agg #[.int .i64 s.p.op, .int .i64 s.p.cl, .slice s.aH s.p.hol.length s.cH, .int .i64 s.p.mach, .slice s.aS s.p.setup.length s.cS, .slice s.aJ s.p.jobs.length s.cJ], .slice A pl.length c] w (JPost s.p pl w) := by
  have hv := valid_facts hvB
  have hfs := hv.fits
  have hk := Blk.new w 25 #[.int .i64 s.p.op, .int .i64 s.p.cl, .slice s.aH s.p.hol.length s.cH, .int .i64 s.p.mach, .slice s.aS s.p.setup.length s.cS, .slice s.aJ s.p.jobs.length s.cJ]
  have hB := (Below.refl w.heap.size w).alloc (Nat.le_refl _) (.cells #[.int .i64 s.p.op, .int .i64 s.p.cl, .slice s.aH s.p.hol.length s.cH, .int .i64 s.p.mach, .slice s.aS s.p.setup.length s.cS, .slice s.aJ s.p.jobs.length s.cJ] 25)
  go_enter Try.func37, Try.ntmps37
  go_wp2_with fail
  generalize w.alloc (.cells #[.int .i64 s.p.op, .int .i64 s.p.cl, .slice s.aH s.p.hol.length s.cH, .int .i64 s.p.mach, .slice s.aS s.p.setup.length s.cS, .slice s.aJ s.p.jobs.length s.cJ] 25) = W at *
  have c0 := hk.cell_ 0 rfl
  have c1 := hk.cell_ 1 rfl
  have c2 := hk.cell_ 2 rfl
  have c3 := hk.cell_ 3 rfl
  have c4 := hk.cell_ 4 rfl
  have c5 := hk.cell_ 5 rfl
  go_wp2_with fail
  refine (valid_any s _ (hS.on hB) hfs.h1 hfs.h2 hfs.h3 hfs.h4).mono ?_
  rintro e W ⟨rfl, hb⟩
  clear c0 c1 c2 c3 c4 c5
  replace hk := hk.below hb hk.lt
  replace hB := hB.trans (hb.mono hB.size)
  clear hb
  have c0 := hk.cell_ 0 rfl
  have c1 := hk.cell_ 1 rfl
  have c2 := hk.cell_ 2 rfl
  have c3 := hk.cell_ 3 rfl
  have c4 := hk.cell_ 4 rfl
  have c5 := hk.cell_ 5 rfl
  rw [hvB]
  have HV3 : Hid (V3 (judgeF s.p pl) = .tuple #[.int .i64 (judgeF s.p pl).1, .int .i64 (judgeF s.p pl).2.1, .int .i64 (judgeF s.p pl).2.2]) := rfl
  go_wp2_with fail
  refine (judge_any s A c pl _ (hS.on hB) hv (hP.on hB) hf).mono ?_
  rintro e W ⟨rfl, hb⟩
  clear c0 c1 c2 c3 c4 c5
  replace hk := hk.below hb hk.lt
  replace hB := hB.trans (hb.mono hB.size)
  clear hb
  have c0 := hk.cell_ 0 rfl
  have c1 := hk.cell_ 1 rfl
  have c2 := hk.cell_ 2 rfl
  have c3 := hk.cell_ 3 rfl
  have c4 := hk.cell_ 4 rfl
  have c5 := hk.cell_ 5 rfl
  rw [HV3.out]
  go_wp2_with fail
  go_ret3
  exact ⟨ret_eq HV3.out.symm, hB⟩
end Go.Proofs.Ytcpnfcnobnjhdaa
