/- Parts of the proofs of this seat: ShopDispatches, ShopPulls, DispR, ShopRight, PullQ, ShopOrders, ShopEarlier. Each part says what it proves; no condition beyond those stated there. -/
import Derived.Test.YtcpnfcnobnjhdaaA13

/- The law ShopDispatches: the walk. -/
namespace Go.Proofs.Ytcpnfcnobnjhdaa
open Go.RowKit
theorem VS.iter {p : Shop} (hv : VShop p) : ∀ (n : Nat) {S : DS}, VS p S → VS p (iterS p n S)
  | 0, _, h => h
  | n + 1, S, h => by
    unfold iterS nextS
    cases hb : bestF p S with
    | none => exact VS.iter hv n h
    | some q =>
      obtain ⟨j, t⟩ := q
      exact VS.iter hv n (h.put_ hv hb).1
theorem dispF_fits {p : Shop} (hv : VShop p) : PFits (dispF p) := by
  have h := VS.iter hv (total p) (VS.start p)
  have hjn := hv.jobn
  refine ⟨by unfold dispF; rw [h.len]; omega, fun l hl => ?_⟩
  obtain ⟨i, hi⟩ := List.getElem?_of_mem hl
  have hil : i < p.jobs.length := by rw [← h.len]; exact (List.getElem?_eq_some_iff.1 hi).1
  have hj : p.jobs[i]? = some p.jobs[i] := List.getElem?_eq_getElem hil
  have h1 := (h.row i _ l hj hi).1
  have h2 := (hv.steps i _ hj).1
  omega
set_option maxRecDepth 200000 in
set_option maxHeartbeats 4000000 in
theorem dispatches_walk (s : Sh) (w : World) (hS : ShAt w w.heap.size s) (hf : Fits s.p) :
    Calls Try.prog 9 #[.agg #[.int .i64 s.p.op, .int .i64 s.p.cl, .slice s.aH s.p.hol.length s.cH, .int .i64 s.p.mach, .slice s.aS s.p.setup.length s.cS, .slice s.aJ s.p.jobs.length s.cJ]] w fun e w' => e = .returned (.bool true) ∧ Below w.heap.size w w' := by
  have hk := Blk.new w 25 #[.int .i64 s.p.op, .int .i64 s.p.cl, .slice s.aH s.p.hol.length s.cH, .int .i64 s.p.mach, .slice s.aS s.p.setup.length s.cS, .slice s.aJ s.p.jobs.length s.cJ]
  have hB := (Below.refl w.heap.size w).alloc (Nat.le_refl _) (.cells #[.int .i64 s.p.op, .int .i64 s.p.cl, .slice s.aH s.p.hol.length s.cH, .int .i64 s.p.mach, .slice s.aS s.p.setup.length s.cS, .slice s.aJ s.p.jobs.length s.cJ] 25)
  go_enter Try.func9, Try.ntmps9
  go_wp2_with fail
  generalize w.alloc (.cells #[.int .i64 s.p.op, .int .i64 s.p.cl, .slice s.aH s.p.hol.length s.cH, .int .i64 s.p.mach, .slice s.aS s.p.setup.length s.cS, .slice s.aJ s.p.jobs.length s.cJ] 25) = W at *
  have c0 := hk.cell_ 0 rfl
  have c1 := hk.cell_ 1 rfl
  have c2 := hk.cell_ 2 rfl
  have c3 := hk.cell_ 3 rfl
  have c4 := hk.cell_ 4 rfl
  have c5 := hk.cell_ 5 rfl
  go_wp2_with fail
  refine (long_any s _ (hS.on hB) hf.h1 hf.h2 hf.h3 hf.h4).mono ?_
  rintro e W ⟨rfl, hb⟩
  clear c0 c1 c2 c3 c4 c5
  replace hk := hk.below hb hk.lt
  replace hB := hB.trans (hb.mono hB.size)
  clear hb
  have c0 := hk.cell_ 0 rfl
  have c1 := hk.cell_ 1 rfl
  have c2 := hk.cell_ 2 rfl
  have c3 := hk.cell_ 3 rfl
  have c4 := hk.cell_ 4 rfl
  have c5 := hk.cell_ 5 rfl
  cases hl : longB s.p
  case true =>
    go_wp2_with fail
    refine (first_any _).mono ?_
    rintro e W ⟨rfl, hb⟩
    clear c0 c1 c2 c3 c4 c5
    replace hk := hk.below hb hk.lt
    replace hB := hB.trans (hb.mono hB.size)
    clear hb
    have c0 := hk.cell_ 0 rfl
    have c1 := hk.cell_ 1 rfl
    have c2 := hk.cell_ 2 rfl
    have c3 := hk.cell_ 3 rfl
    have c4 := hk.cell_ 4 rfl
    have c5 := hk.cell_ 5 rfl
    go_wp2_with fail
    go_ret
    exact ⟨rfl, hB⟩
  go_wp2_with fail
  refine (refValid_any s _ (hS.on hB) hf.h1 hf.h2 hf.h3 hf.h4).mono ?_
  rintro e W ⟨rfl, hb⟩
  clear c0 c1 c2 c3 c4 c5
  replace hk := hk.below hb hk.lt
  replace hB := hB.trans (hb.mono hB.size)
  clear hb
  have c0 := hk.cell_ 0 rfl
  have c1 := hk.cell_ 1 rfl
  have c2 := hk.cell_ 2 rfl
  have c3 := hk.cell_ 3 rfl
  have c4 := hk.cell_ 4 rfl
  have c5 := hk.cell_ 5 rfl
  cases hvB : validShop s.p
  case false =>
    go_wp2_with fail
    refine (first_any _).mono ?_
    rintro e W ⟨rfl, hb⟩
    clear c0 c1 c2 c3 c4 c5
    replace hk := hk.below hb hk.lt
    replace hB := hB.trans (hb.mono hB.size)
    clear hb
    have c0 := hk.cell_ 0 rfl
    have c1 := hk.cell_ 1 rfl
    have c2 := hk.cell_ 2 rfl
    have c3 := hk.cell_ 3 rfl
    have c4 := hk.cell_ 4 rfl
    have c5 := hk.cell_ 5 rfl
    go_wp2_with fail
    go_ret
    exact ⟨rfl, hB⟩
  have hv := valid_facts hvB
  go_wp2_with fail
  refine (dispatch_any s _ (hS.on hB) hvB).mono ?_
  rintro e W ⟨A1, k1, rfl, hb, hP1⟩
  clear c0 c1 c2 c3 c4 c5
  replace hk := hk.below hb hk.lt
  replace hB := hB.trans (hb.mono hB.size)
  clear hb
  have c0 := hk.cell_ 0 rfl
  have c1 := hk.cell_ 1 rfl
  have c2 := hk.cell_ 2 rfl
  have c3 := hk.cell_ 3 rfl
  have c4 := hk.cell_ 4 rfl
  have c5 := hk.cell_ 5 rfl
  go_wp2_with fail
  refine (refDispatch_any s _ (hS.on hB) hv).mono ?_
  rintro e W ⟨A2, k2, rfl, hb, hP2⟩
  clear c0 c1 c2 c3 c4 c5
  replace hk := hk.below hb hk.lt
  replace hP1 := hP1.on hb
  replace hB := hB.trans (hb.mono hB.size)
  clear hb
  have c0 := hk.cell_ 0 rfl
  have c1 := hk.cell_ 1 rfl
  have c2 := hk.cell_ 2 rfl
  have c3 := hk.cell_ 3 rfl
  have c4 := hk.cell_ 4 rfl
  have c5 := hk.cell_ 5 rfl
  go_wp2_with fail
  refine (samePlan_any A1 A2 k1 k2 (dispF s.p) _ hP1 hP2 (dispF_fits hv)).mono ?_
  rintro e W ⟨rfl, hb⟩
  clear c0 c1 c2 c3 c4 c5
  replace hk := hk.below hb hk.lt
  replace hP1 := hP1.on hb
  replace hP2 := hP2.on hb
  replace hB := hB.trans (hb.mono hB.size)
  clear hb
  have c0 := hk.cell_ 0 rfl
  have c1 := hk.cell_ 1 rfl
  have c2 := hk.cell_ 2 rfl
  have c3 := hk.cell_ 3 rfl
  have c4 := hk.cell_ 4 rfl
  have c5 := hk.cell_ 5 rfl
  go_wp2_with fail
  refine (first_any _).mono ?_
  rintro e W ⟨rfl, hb⟩
  clear c0 c1 c2 c3 c4 c5
  replace hk := hk.below hb hk.lt
  replace hP1 := hP1.on hb
  replace hP2 := hP2.on hb
  replace hB := hB.trans (hb.mono hB.size)
  clear hb
  have c0 := hk.cell_ 0 rfl
  have c1 := hk.cell_ 1 rfl
  have c2 := hk.cell_ 2 rfl
  have c3 := hk.cell_ 3 rfl
  have c4 := hk.cell_ 4 rfl
  have c5 := hk.cell_ 5 rfl
  go_wp2_with fail
  go_ret
  exact ⟨rfl, hB⟩
end Go.Proofs.Ytcpnfcnobnjhdaa

/- The law ShopPulls: the walk. -/
namespace Go.Proofs.Ytcpnfcnobnjhdaa
open Go.RowKit
set_option maxRecDepth 200000 in
set_option maxHeartbeats 4000000 in
theorem pulls_walk (s : Sh) (A : Option Addr) (c : Nat) (pl : List (List Int)) (w : World) (hS : ShAt w w.heap.size s) (hf : Fits s.p) (hP : Plan w w.heap.size A pl) (hpf : PFits pl) :
    Calls Try.prog 12 #[.agg #[.int .i64 s.p.op, .int .i64 s.p.cl, .slice s.aH s.p.hol.length s.cH, .int .i64 s.p.mach, .slice s.aS s.p.setup.length s.cS, .slice s.aJ s.p.jobs.length s.cJ], .slice A pl.length c] w fun e w' => e = .returned (.bool true) ∧ Below w.heap.size w w' := by
  have hk := Blk.new w 25 #[.int .i64 s.p.op, .int .i64 s.p.cl, .slice s.aH s.p.hol.length s.cH, .int .i64 s.p.mach, .slice s.aS s.p.setup.length s.cS, .slice s.aJ s.p.jobs.length s.cJ]
  have hB := (Below.refl w.heap.size w).alloc (Nat.le_refl _) (.cells #[.int .i64 s.p.op, .int .i64 s.p.cl, .slice s.aH s.p.hol.length s.cH, .int .i64 s.p.mach, .slice s.aS s.p.setup.length s.cS, .slice s.aJ s.p.jobs.length s.cJ] 25)
  go_enter Try.func12, Try.ntmps12
  go_wp2_with fail
  generalize w.alloc (.cells #[.int .i64 s.p.op, .int .i64 s.p.cl, .slice s.aH s.p.hol.length s.cH, .int .i64 s.p.mach, .slice s.aS s.p.setup.length s.cS, .slice s.aJ s.p.jobs.length s.cJ] 25) = W at *
  have c0 := hk.cell_ 0 rfl
  have c1 := hk.cell_ 1 rfl
  have c2 := hk.cell_ 2 rfl
  have c3 := hk.cell_ 3 rfl
  have c4 := hk.cell_ 4 rfl
  have c5 := hk.cell_ 5 rfl
  go_wp2_with fail
  refine (long_any s _ (hS.on hB) hf.h1 hf.h2 hf.h3 hf.h4).mono ?_
  rintro e W ⟨rfl, hb⟩
  clear c0 c1 c2 c3 c4 c5
  replace hk := hk.below hb hk.lt
  replace hB := hB.trans (hb.mono hB.size)
  clear hb
  have c0 := hk.cell_ 0 rfl
  have c1 := hk.cell_ 1 rfl
  have c2 := hk.cell_ 2 rfl
  have c3 := hk.cell_ 3 rfl
  have c4 := hk.cell_ 4 rfl
  have c5 := hk.cell_ 5 rfl
  cases hl : longB s.p
  case true =>
    go_wp2_with fail
    refine (first_any _).mono ?_
    rintro e W ⟨rfl, hb⟩
    clear c0 c1 c2 c3 c4 c5
    replace hk := hk.below hb hk.lt
    replace hB := hB.trans (hb.mono hB.size)
    clear hb
    have c0 := hk.cell_ 0 rfl
    have c1 := hk.cell_ 1 rfl
    have c2 := hk.cell_ 2 rfl
    have c3 := hk.cell_ 3 rfl
    have c4 := hk.cell_ 4 rfl
    have c5 := hk.cell_ 5 rfl
    go_wp2_with fail
    go_ret
    exact ⟨rfl, hB⟩
  go_wp2_with fail
  refine (wide_any A c pl _ (hP.on hB) hpf).mono ?_
  rintro e W ⟨rfl, hb⟩
  clear c0 c1 c2 c3 c4 c5
  replace hk := hk.below hb hk.lt
  replace hB := hB.trans (hb.mono hB.size)
  clear hb
  have c0 := hk.cell_ 0 rfl
  have c1 := hk.cell_ 1 rfl
  have c2 := hk.cell_ 2 rfl
  have c3 := hk.cell_ 3 rfl
  have c4 := hk.cell_ 4 rfl
  have c5 := hk.cell_ 5 rfl
  cases hw : wideB pl
  case true =>
    go_wp2_with fail
    refine (first_any _).mono ?_
    rintro e W ⟨rfl, hb⟩
    clear c0 c1 c2 c3 c4 c5
    replace hk := hk.below hb hk.lt
    replace hB := hB.trans (hb.mono hB.size)
    clear hb
    have c0 := hk.cell_ 0 rfl
    have c1 := hk.cell_ 1 rfl
    have c2 := hk.cell_ 2 rfl
    have c3 := hk.cell_ 3 rfl
    have c4 := hk.cell_ 4 rfl
    have c5 := hk.cell_ 5 rfl
    go_wp2_with fail
    go_ret
    exact ⟨rfl, hB⟩
  go_wp2_with fail
  refine (refValid_any s _ (hS.on hB) hf.h1 hf.h2 hf.h3 hf.h4).mono ?_
  rintro e W ⟨rfl, hb⟩
  clear c0 c1 c2 c3 c4 c5
  replace hk := hk.below hb hk.lt
  replace hB := hB.trans (hb.mono hB.size)
  clear hb
  have c0 := hk.cell_ 0 rfl
  have c1 := hk.cell_ 1 rfl
  have c2 := hk.cell_ 2 rfl
  have c3 := hk.cell_ 3 rfl
  have c4 := hk.cell_ 4 rfl
  have c5 := hk.cell_ 5 rfl
  cases hvB : validShop s.p
  case false =>
    go_wp2_with fail
    refine (first_any _).mono ?_
    rintro e W ⟨rfl, hb⟩
    clear c0 c1 c2 c3 c4 c5
    replace hk := hk.below hb hk.lt
    replace hB := hB.trans (hb.mono hB.size)
    clear hb
    have c0 := hk.cell_ 0 rfl
    have c1 := hk.cell_ 1 rfl
    have c2 := hk.cell_ 2 rfl
    have c3 := hk.cell_ 3 rfl
    have c4 := hk.cell_ 4 rfl
    have c5 := hk.cell_ 5 rfl
    go_wp2_with fail
    go_ret
    exact ⟨rfl, hB⟩
  have hv := valid_facts hvB
  have hjn := hv.jobn
  have HV3 : Hid (V3 (judgeF s.p pl) = .tuple #[.int .i64 (judgeF s.p pl).1, .int .i64 (judgeF s.p pl).2.1, .int .i64 (judgeF s.p pl).2.2]) := rfl
  by_cases hz : (judgeF s.p pl).2.2 = 0
  · have HPV := hide (show pullV s.p pl = pullF s.p pl by unfold pullV; rw [if_pos hz])
    have HFT := hide (fits_of hv (pull_right hv hz).shape)
    have HZ := hide hz
    clear hz
    go_wp2_with fail
    refine (pull_any s A c pl _ (hS.on hB) hvB (hP.on hB) hpf).mono ?_
    rintro e W9 ⟨A1, k1, rfl, hb, hP1⟩
    obtain ⟨W, rfl⟩ : ∃ W : World, W = W9 := ⟨_, rfl⟩
    clear c0 c1 c2 c3 c4 c5
    replace hk := hk.below hb hk.lt
    replace hB := hB.trans (hb.mono hB.size)
    clear hb
    have c0 := hk.cell_ 0 rfl
    have c1 := hk.cell_ 1 rfl
    have c2 := hk.cell_ 2 rfl
    have c3 := hk.cell_ 3 rfl
    have c4 := hk.cell_ 4 rfl
    have c5 := hk.cell_ 5 rfl
    rw [HPV.out, HZ.out]
    rw [HPV.out] at hP1
    go_wp2_with fail
    refine (refJudge_any s A c pl _ (hS.on hB) hv (hP.on hB) hpf).mono ?_
    rintro e W ⟨rfl, hb⟩
    clear c0 c1 c2 c3 c4 c5
    replace hk := hk.below hb hk.lt
    replace hP1 := hP1.on hb
    replace hB := hB.trans (hb.mono hB.size)
    clear hb
    have c0 := hk.cell_ 0 rfl
    have c1 := hk.cell_ 1 rfl
    have c2 := hk.cell_ 2 rfl
    have c3 := hk.cell_ 3 rfl
    have c4 := hk.cell_ 4 rfl
    have c5 := hk.cell_ 5 rfl
    rw [HV3.out, HZ.out]
    go_wp2_with fail
    refine (refPull_any s A c pl _ (hS.on hB) hv (hP.on hB) HZ.out).mono ?_
    rintro e W ⟨A2, k2, rfl, hb, hP2⟩
    clear c0 c1 c2 c3 c4 c5
    replace hk := hk.below hb hk.lt
    replace hP1 := hP1.on hb
    replace hB := hB.trans (hb.mono hB.size)
    clear hb
    have c0 := hk.cell_ 0 rfl
    have c1 := hk.cell_ 1 rfl
    have c2 := hk.cell_ 2 rfl
    have c3 := hk.cell_ 3 rfl
    have c4 := hk.cell_ 4 rfl
    have c5 := hk.cell_ 5 rfl
    go_wp2_with fail
    refine (samePlan_any A1 A2 k1 k2 (pullF s.p pl) _ hP1 hP2 HFT.out).mono ?_
    rintro e W ⟨rfl, hb⟩
    clear c0 c1 c2 c3 c4 c5
    replace hk := hk.below hb hk.lt
    replace hP1 := hP1.on hb
    replace hP2 := hP2.on hb
    replace hB := hB.trans (hb.mono hB.size)
    clear hb
    have c0 := hk.cell_ 0 rfl
    have c1 := hk.cell_ 1 rfl
    have c2 := hk.cell_ 2 rfl
    have c3 := hk.cell_ 3 rfl
    have c4 := hk.cell_ 4 rfl
    have c5 := hk.cell_ 5 rfl
    go_wp2_with fail
    refine (first_any _).mono ?_
    rintro e W ⟨rfl, hb⟩
    clear c0 c1 c2 c3 c4 c5
    replace hk := hk.below hb hk.lt
    replace hP1 := hP1.on hb
    replace hP2 := hP2.on hb
    replace hB := hB.trans (hb.mono hB.size)
    clear hb
    have c0 := hk.cell_ 0 rfl
    have c1 := hk.cell_ 1 rfl
    have c2 := hk.cell_ 2 rfl
    have c3 := hk.cell_ 3 rfl
    have c4 := hk.cell_ 4 rfl
    have c5 := hk.cell_ 5 rfl
    go_wp2_with fail
    go_ret
    exact ⟨rfl, hB⟩
  · have HPV := hide (show pullV s.p pl = [] by unfold pullV; rw [if_neg hz])
    have hzb : ((judgeF s.p pl).2.2 != 0) = true := by simpa using hz
    have HZ := hide hz
    clear hz
    go_wp2_with fail
    refine (pull_any s A c pl _ (hS.on hB) hvB (hP.on hB) hpf).mono ?_
    rintro e W9 ⟨A1, k1, rfl, hb, hP1⟩
    obtain ⟨W, rfl⟩ : ∃ W : World, W = W9 := ⟨_, rfl⟩
    clear c0 c1 c2 c3 c4 c5
    replace hk := hk.below hb hk.lt
    replace hB := hB.trans (hb.mono hB.size)
    clear hb
    have c0 := hk.cell_ 0 rfl
    have c1 := hk.cell_ 1 rfl
    have c2 := hk.cell_ 2 rfl
    have c3 := hk.cell_ 3 rfl
    have c4 := hk.cell_ 4 rfl
    have c5 := hk.cell_ 5 rfl
    rw [HPV.out]
    clear hP1
    go_wp2_with fail
    refine (refJudge_any s A c pl _ (hS.on hB) hv (hP.on hB) hpf).mono ?_
    rintro e W ⟨rfl, hb⟩
    clear c0 c1 c2 c3 c4 c5
    replace hk := hk.below hb hk.lt
    replace hB := hB.trans (hb.mono hB.size)
    clear hb
    have c0 := hk.cell_ 0 rfl
    have c1 := hk.cell_ 1 rfl
    have c2 := hk.cell_ 2 rfl
    have c3 := hk.cell_ 3 rfl
    have c4 := hk.cell_ 4 rfl
    have c5 := hk.cell_ 5 rfl
    rw [HV3.out]
    go_wp2_with fail
    refine (first_any _).mono ?_
    rintro e W ⟨rfl, hb⟩
    clear c0 c1 c2 c3 c4 c5
    replace hk := hk.below hb hk.lt
    replace hB := hB.trans (hb.mono hB.size)
    clear hb
    have c0 := hk.cell_ 0 rfl
    have c1 := hk.cell_ 1 rfl
    have c2 := hk.cell_ 2 rfl
    have c3 := hk.cell_ 3 rfl
    have c4 := hk.cell_ 4 rfl
    have c5 := hk.cell_ 5 rfl
    go_wp2_with fail
    go_ret
    exact ⟨rfl, hB⟩
end Go.Proofs.Ytcpnfcnobnjhdaa

/- What Dispatch plans is right: the plain law. -/
namespace Go.Proofs.Ytcpnfcnobnjhdaa
open Go Go.Sort Go.RowKit StabAt
/-- the steps that have been put so far -/
structure DispR (p : Shop) (R : List At) (S : DS) : Prop where
  ok : ∀ a ∈ R, ∃ s, p.jobs[a.j]? = some s ∧ s[a.k]? = some a.x
  asc : R.Pairwise fun a b => a.j = b.j → a.k < b.k
  rows : ∀ (j : Nat) l, S.pl[j]? = some l → ∀ (k : Nat) t, l[k]? = some t ↔ ∃ a ∈ R, a.j = j ∧ a.k = k ∧ a.t = t
  last : ∀ m, look S.last m = lastP (onB m) R
  placed : Placed p R
theorem DispR.start (p : Shop) : DispR p [] (ds0 p) := by
  refine ⟨fun a h => (by cases h), List.Pairwise.nil, fun j l hl k t => ?_, fun m => rfl, fun i b h => by simp at h⟩
  have : l = [] := by
    simp [ds0, List.getElem?_replicate] at hl
    exact hl.2
  subst this
  simp
theorem DispR.rdy_ {p : Shop} {R : List At} {S : DS} (h : DispR p R S) {j : Nat} {st : List Step} {l : List Int} (hj : p.jobs[j]? = some st) (hl : S.pl[j]? = some l) : rdyR R j = rdy st l := by
  have hr := h.rows j l hl
  unfold rdyR rdy
  cases hlp : lastP (ofJ j) R with
  | none =>
    have hn : l.length = 0 := by
      rcases Nat.eq_zero_or_pos l.length with h0 | h0
      · exact h0
      · obtain ⟨a, ha, e1, _⟩ := (hr 0 l[0]).1 (List.getElem?_eq_getElem h0)
        have := lastP_none hlp a ha
        simp [ofJ, e1] at this
    rw [hn]
  | some b =>
    obtain ⟨i, h1, h2, h3⟩ := lastP_some hlp
    have hbj : b.j = j := by simpa [ofJ] using h2
    have hbm := List.mem_of_getElem? h1
    have hbk : l[b.k]? = some b.t := (hr b.k b.t).2 ⟨b, hbm, hbj, rfl, rfl⟩
    have hlt := (List.getElem?_eq_some_iff.1 hbk).1
    have hlen : l.length = b.k + 1 := by
      rcases Nat.lt_or_ge (b.k + 1) l.length with h4 | h4
      · exfalso
        obtain ⟨a, ha, e1, e2, _⟩ := (hr (b.k + 1) l[b.k + 1]).1 (List.getElem?_eq_getElem h4)
        obtain ⟨i', hi'⟩ := List.getElem?_of_mem ha
        rcases Nat.lt_trichotomy i i' with h5 | h5 | h5
        · have := h3 i' a h5 hi'; simp [ofJ, e1] at this
        · subst h5; rw [h1] at hi'; injection hi' with hi'; subst hi'; omega
        · have := pair_get h.asc h5 hi' h1 (by rw [e1, hbj]); omega
      · omega
    obtain ⟨s, g1, g2⟩ := h.ok b hbm
    rw [hbj, hj] at g1
    injection g1 with g1
    subst g1
    rw [hlen]
    simp only
    rw [List.getD_eq_getElem?_getD, List.getD_eq_getElem?_getD, hbk, g2]
    rfl
theorem DispR.put_ {p : Shop} (hv : VShop p) {R : List At} {S : DS} (h : DispR p R S) (hs : VS p S) {j : Nat} {t : Int} (hb : bestF p S = some (j, t)) : ∃ R', DispR p R' (putS p S j t) := by
  obtain ⟨st, l, x, h1, h2, h3, h4, h5, h6, h7⟩ := best_at hv hs hb
  have htl := total_le hv
  have hfrom : startF p R ⟨j, l.length, t, x⟩ = t := by
    rw [h4]
    unfold startF fromR prevF
    show nextF p (match lastP (onB x.m) R with | none => rdyR R j | some b => max (rdyR R j) (roomF p b x.c)) x.mi = _
    rw [h.last, h.rdy_ h1 h2]
    cases lastP (onB x.m) R <;> rfl
  have hnew : ∀ a ∈ R, a.j = j → a.k < l.length := fun a ha hj => (List.getElem?_eq_some_iff.1 ((h.rows j l h2 a.k a.t).2 ⟨a, ha, hj, rfl, rfl⟩)).1
  refine ⟨R ++ [⟨j, l.length, t, x⟩], fun a ha => ?_, ?_, fun j' l' hl' k t' => ?_, fun m => ?_, fun i b hi => ?_⟩
  · rcases List.mem_append.1 ha with ha | ha
    · exact h.ok a ha
    · simp at ha; subst ha; exact ⟨st, h1, h3⟩
  · rw [List.pairwise_append]
    refine ⟨h.asc, by simp, fun a ha b hb' hj => ?_⟩
    simp at hb'; subst hb'
    exact hnew a ha hj
  · rw [putS_eq t h1 h2 h3] at hl'
    replace hl' : (S.pl.modify j fun l => l ++ [t])[j']? = some l' := hl'
    rw [modify_get] at hl'
    by_cases hjj : j = j'
    · subst hjj
      rw [if_pos rfl, h2] at hl'
      simp only [Option.map_some, Option.some.injEq] at hl'
      subst hl'
      constructor
      · intro hk
        by_cases hkl : k < l.length
        · rw [List.getElem?_append_left hkl] at hk
          obtain ⟨a, ha, e⟩ := (h.rows j l h2 k t').1 hk
          exact ⟨a, by simp [ha], e⟩
        · have hlt := (List.getElem?_eq_some_iff.1 hk).1
          simp at hlt
          obtain rfl : k = l.length := by omega
          simp at hk
          subst hk
          exact ⟨⟨j, l.length, t, x⟩, by simp, rfl, rfl, rfl⟩
      · rintro ⟨a, ha, e1, e2, e3⟩
        rcases List.mem_append.1 ha with ha | ha
        · have hk := (h.rows j l h2 k t').2 ⟨a, ha, e1, e2, e3⟩
          rw [List.getElem?_append_left (List.getElem?_eq_some_iff.1 hk).1]
          exact hk
        · simp at ha; subst ha
          replace e2 : l.length = k := e2
          replace e3 : t = t' := e3
          subst e2 e3
          simp
    · rw [if_neg hjj] at hl'
      rw [h.rows j' l' hl' k t']
      constructor
      · rintro ⟨a, ha, e⟩; exact ⟨a, by simp [ha], e⟩
      · rintro ⟨a, ha, e1, e⟩
        rcases List.mem_append.1 ha with ha | ha
        · exact ⟨a, ha, e1, e⟩
        · simp at ha; subst ha; exact absurd e1 hjj
  · rw [putS_eq t h1 h2 h3, lastP_snoc]
    show look (put S.last x.m _) m = _
    rw [look_put, h.last]
    by_cases hm : m = x.m
    · subst hm; simp [onB]
    · rw [if_neg hm, if_neg (by simp only [onB, decide_eq_true_eq]; exact fun h => hm h.symm)]
  · by_cases hil : i < R.length
    · rw [List.getElem?_append_left hil] at hi
      have := h.placed i b hi
      rw [List.take_append_of_le_length (by omega)]
      exact this
    · have hlt := (List.getElem?_eq_some_iff.1 hi).1
      simp at hlt
      obtain rfl : i = R.length := by omega
      simp at hi
      subst hi
      rw [List.take_left]
      refine ⟨hfrom.symm, h5, ?_⟩
      show t ≤ _
      unfold bd at h6
      push_cast at h6
      omega
theorem DispR.iter {p : Shop} (hv : VShop p) : ∀ (n : Nat) {S : DS} {R : List At}, VS p S → DispR p R S → ∃ R', DispR p R' (iterS p n S)
  | 0, S, R, _, h => ⟨R, h⟩
  | n + 1, S, R, hs, h => by
    cases hb : bestF p S with
    | none => rw [iterS_none hb]; exact ⟨R, h⟩
    | some q =>
      obtain ⟨j, t⟩ := q
      rw [iterS_some hb]
      obtain ⟨R', h'⟩ := h.put_ hv hs hb
      exact DispR.iter hv n (hs.put_ hv hb).1 h'
theorem iter_done {p : Shop} (hv : VShop p) : ∀ (n : Nat) {S : DS}, VS p S → n + cnt S.pl = total p → bestF p (iterS p n S) = none
  | 0, S, hs, h => by
    show bestF p S = none
    cases hb : bestF p S with
    | none => rfl
    | some q =>
      obtain ⟨j, t⟩ := q
      obtain ⟨st, l, x, _, _, _, _, _, _, h7⟩ := best_at hv hs hb
      omega
  | n + 1, S, hs, h => by
    cases hb : bestF p S with
    | none => rw [iterS_none hb]; exact hb
    | some q =>
      obtain ⟨j, t⟩ := q
      rw [iterS_some hb]
      obtain ⟨h1, h2⟩ := hs.put_ hv hb
      exact iter_done hv n h1 (by omega)
/-- what Dispatch returns, as steps that were put one by one -/
theorem disp_placed {p : Shop} (hv : VShop p) : ∃ R, SeqOk p R ∧ Placed p R ∧ dispF p = planR p R := by
  obtain ⟨R, h⟩ := DispR.iter hv (total p) (VS.start p) (DispR.start p)
  have hvs := VS.iter hv (total p) (VS.start p)
  have hn := iter_done hv (total p) (VS.start p) (by rw [cnt_start]; omega)
  have hc := (bestFrom_none hn).2
  have hfull : ∀ (j : Nat) st l, p.jobs[j]? = some st → (iterS p (total p) (ds0 p)).pl[j]? = some l → l.length = st.length := fun j st l hj hl => by
    have h1 := hc j st l hj hl
    have h2 := (hvs.row j st l hj hl).1
    unfold candT at h1
    cases hx : st[l.length]? with
    | none => have := List.getElem?_eq_none_iff.1 hx; omega
    | some x => rw [hx] at h1; cases h1
  have hlen : ∀ (j : Nat) st, p.jobs[j]? = some st → ∃ l, (iterS p (total p) (ds0 p)).pl[j]? = some l := fun j st hj => ⟨_, List.getElem?_eq_getElem (by rw [hvs.len]; exact (List.getElem?_eq_some_iff.1 hj).1)⟩
  have hq : SeqOk p R := by
    refine ⟨h.ok, h.asc, fun j k s x hj hk => ?_⟩
    obtain ⟨l, hl⟩ := hlen j s hj
    have hkl : k < l.length := by rw [hfull j s l hj hl]; exact (List.getElem?_eq_some_iff.1 hk).1
    obtain ⟨a, ha, e1, e2, _⟩ := (h.rows j l hl k l[k]).1 (List.getElem?_eq_getElem hkl)
    exact ⟨a, ha, e1, e2⟩
  refine ⟨R, hq, h.placed, ?_⟩
  unfold dispF
  apply List.ext_getElem?
  intro j
  by_cases hj : j < p.jobs.length
  · have hs : p.jobs[j]? = some p.jobs[j] := List.getElem?_eq_getElem hj
    obtain ⟨l, hl⟩ := hlen j _ hs
    rw [planR_row hs, hl]
    congr 1
    have hll := hfull j _ l hs hl
    apply List.ext_getElem?
    intro k
    by_cases hk : k < l.length
    · obtain ⟨a, ha, e1, e2, e3⟩ := (h.rows j l hl k l[k]).1 (List.getElem?_eq_getElem hk)
      rw [List.getElem?_eq_getElem hk, List.getElem?_map, List.getElem?_range (by omega)]
      simp only [Option.map_some]
      have h9 := tOf_eq hq ha
      rw [e1, e2, e3] at h9
      rw [h9]
    · rw [List.getElem?_eq_none (by omega), List.getElem?_eq_none (by simp; omega)]
  · rw [List.getElem?_eq_none (by rw [hvs.len]; omega), List.getElem?_eq_none (by rw [planR_len]; omega)]
theorem disp_right {p : Shop} (hv : VShop p) : RightP p (dispF p) := by
  obtain ⟨R, h1, h2, h3⟩ := disp_placed hv
  rw [h3]
  exact placed_right hv h1 h2
theorem disp_judge {p : Shop} (hv : VShop p) : (judgeF p (dispF p)).2.2 = 0 := (disp_right hv).judge
end Go.Proofs.Ytcpnfcnobnjhdaa

/- The law ShopRight: the walk. -/
namespace Go.Proofs.Ytcpnfcnobnjhdaa
open Go.RowKit
theorem v3 (p : Shop) (pl : List (List Int)) : V3 (judgeF p pl) = .tuple #[.int .i64 (judgeF p pl).1, .int .i64 (judgeF p pl).2.1, .int .i64 (judgeF p pl).2.2] := rfl
set_option maxRecDepth 200000 in
set_option maxHeartbeats 4000000 in
theorem right_walk (s : Sh) (A : Option Addr) (c : Nat) (pl : List (List Int)) (w : World) (hS : ShAt w w.heap.size s) (hf : Fits s.p) (hP : Plan w w.heap.size A pl) (hpf : PFits pl) :
    Calls Try.prog 16 #[.agg #[.int .i64 s.p.op, .int .i64 s.p.cl, .slice s.aH s.p.hol.length s.cH, .int .i64 s.p.mach, .slice s.aS s.p.setup.length s.cS, .slice s.aJ s.p.jobs.length s.cJ], .slice A pl.length c] w fun e w' => e = .returned (.bool true) ∧ Below w.heap.size w w' := by
  have hk := Blk.new w 25 #[.int .i64 s.p.op, .int .i64 s.p.cl, .slice s.aH s.p.hol.length s.cH, .int .i64 s.p.mach, .slice s.aS s.p.setup.length s.cS, .slice s.aJ s.p.jobs.length s.cJ]
  have hB := (Below.refl w.heap.size w).alloc (Nat.le_refl _) (.cells #[.int .i64 s.p.op, .int .i64 s.p.cl, .slice s.aH s.p.hol.length s.cH, .int .i64 s.p.mach, .slice s.aS s.p.setup.length s.cS, .slice s.aJ s.p.jobs.length s.cJ] 25)
  go_enter Try.func16, Try.ntmps16
  go_wp2_with fail
  generalize w.alloc (.cells #[.int .i64 s.p.op, .int .i64 s.p.cl, .slice s.aH s.p.hol.length s.cH, .int .i64 s.p.mach, .slice s.aS s.p.setup.length s.cS, .slice s.aJ s.p.jobs.length s.cJ] 25) = W at *
  have c0 := hk.cell_ 0 rfl
  have c1 := hk.cell_ 1 rfl
  have c2 := hk.cell_ 2 rfl
  have c3 := hk.cell_ 3 rfl
  have c4 := hk.cell_ 4 rfl
  have c5 := hk.cell_ 5 rfl
  go_wp2_with fail
  refine (long_any s _ (hS.on hB) hf.h1 hf.h2 hf.h3 hf.h4).mono ?_
  rintro e W ⟨rfl, hb⟩
  clear c0 c1 c2 c3 c4 c5
  replace hk := hk.below hb hk.lt
  replace hB := hB.trans (hb.mono hB.size)
  clear hb
  have c0 := hk.cell_ 0 rfl
  have c1 := hk.cell_ 1 rfl
  have c2 := hk.cell_ 2 rfl
  have c3 := hk.cell_ 3 rfl
  have c4 := hk.cell_ 4 rfl
  have c5 := hk.cell_ 5 rfl
  cases hl : longB s.p
  case true =>
    go_wp2_with fail
    refine (first_any _).mono ?_
    rintro e W ⟨rfl, hb⟩
    clear c0 c1 c2 c3 c4 c5
    replace hk := hk.below hb hk.lt
    replace hB := hB.trans (hb.mono hB.size)
    clear hb
    have c0 := hk.cell_ 0 rfl
    have c1 := hk.cell_ 1 rfl
    have c2 := hk.cell_ 2 rfl
    have c3 := hk.cell_ 3 rfl
    have c4 := hk.cell_ 4 rfl
    have c5 := hk.cell_ 5 rfl
    go_wp2_with fail
    go_ret
    exact ⟨rfl, hB⟩
  go_wp2_with fail
  refine (wide_any A c pl _ (hP.on hB) hpf).mono ?_
  rintro e W ⟨rfl, hb⟩
  clear c0 c1 c2 c3 c4 c5
  replace hk := hk.below hb hk.lt
  replace hB := hB.trans (hb.mono hB.size)
  clear hb
  have c0 := hk.cell_ 0 rfl
  have c1 := hk.cell_ 1 rfl
  have c2 := hk.cell_ 2 rfl
  have c3 := hk.cell_ 3 rfl
  have c4 := hk.cell_ 4 rfl
  have c5 := hk.cell_ 5 rfl
  cases hw : wideB pl
  case true =>
    go_wp2_with fail
    refine (first_any _).mono ?_
    rintro e W ⟨rfl, hb⟩
    clear c0 c1 c2 c3 c4 c5
    replace hk := hk.below hb hk.lt
    replace hB := hB.trans (hb.mono hB.size)
    clear hb
    have c0 := hk.cell_ 0 rfl
    have c1 := hk.cell_ 1 rfl
    have c2 := hk.cell_ 2 rfl
    have c3 := hk.cell_ 3 rfl
    have c4 := hk.cell_ 4 rfl
    have c5 := hk.cell_ 5 rfl
    go_wp2_with fail
    go_ret
    exact ⟨rfl, hB⟩
  go_wp2_with fail
  refine (refValid_any s _ (hS.on hB) hf.h1 hf.h2 hf.h3 hf.h4).mono ?_
  rintro e W ⟨rfl, hb⟩
  clear c0 c1 c2 c3 c4 c5
  replace hk := hk.below hb hk.lt
  replace hB := hB.trans (hb.mono hB.size)
  clear hb
  have c0 := hk.cell_ 0 rfl
  have c1 := hk.cell_ 1 rfl
  have c2 := hk.cell_ 2 rfl
  have c3 := hk.cell_ 3 rfl
  have c4 := hk.cell_ 4 rfl
  have c5 := hk.cell_ 5 rfl
  cases hvB : validShop s.p
  case false =>
    go_wp2_with fail
    refine (first_any _).mono ?_
    rintro e W ⟨rfl, hb⟩
    clear c0 c1 c2 c3 c4 c5
    replace hk := hk.below hb hk.lt
    replace hB := hB.trans (hb.mono hB.size)
    clear hb
    have c0 := hk.cell_ 0 rfl
    have c1 := hk.cell_ 1 rfl
    have c2 := hk.cell_ 2 rfl
    have c3 := hk.cell_ 3 rfl
    have c4 := hk.cell_ 4 rfl
    have c5 := hk.cell_ 5 rfl
    go_wp2_with fail
    go_ret
    exact ⟨rfl, hB⟩
  have hv := valid_facts hvB
  have HDJ := hide (disp_judge hv)
  have hde : boundF s.p ≤ endV s.p (dispF s.p) := bound_end hv HDJ.out
  have HDF := hide (dispF_fits hv)
  have HV3 := hide (v3 s.p)
  go_wp2_with fail
  refine (bound_any s _ (hS.on hB) hvB).mono ?_
  rintro e W ⟨rfl, hb⟩
  clear c0 c1 c2 c3 c4 c5
  replace hk := hk.below hb hk.lt
  replace hB := hB.trans (hb.mono hB.size)
  clear hb
  have c0 := hk.cell_ 0 rfl
  have c1 := hk.cell_ 1 rfl
  have c2 := hk.cell_ 2 rfl
  have c3 := hk.cell_ 3 rfl
  have c4 := hk.cell_ 4 rfl
  have c5 := hk.cell_ 5 rfl
  go_wp2_with fail
  refine (dispatch_any s _ (hS.on hB) hvB).mono ?_
  rintro e W ⟨A1, k1, rfl, hb, hP1⟩
  clear c0 c1 c2 c3 c4 c5
  replace hk := hk.below hb hk.lt
  replace hB := hB.trans (hb.mono hB.size)
  clear hb
  have c0 := hk.cell_ 0 rfl
  have c1 := hk.cell_ 1 rfl
  have c2 := hk.cell_ 2 rfl
  have c3 := hk.cell_ 3 rfl
  have c4 := hk.cell_ 4 rfl
  have c5 := hk.cell_ 5 rfl
  go_wp2_with fail
  refine (apiJudge_any s A1 k1 (dispF s.p) _ (hS.on hB) hvB hP1 HDF.out).mono ?_
  rintro e W ⟨rfl, hb⟩
  clear c0 c1 c2 c3 c4 c5
  replace hk := hk.below hb hk.lt
  replace hP1 := hP1.on hb
  replace hB := hB.trans (hb.mono hB.size)
  clear hb
  have c0 := hk.cell_ 0 rfl
  have c1 := hk.cell_ 1 rfl
  have c2 := hk.cell_ 2 rfl
  have c3 := hk.cell_ 3 rfl
  have c4 := hk.cell_ 4 rfl
  have c5 := hk.cell_ 5 rfl
  rw [HV3.out, HDJ.out]
  go_wp2_with fail
  refine (apiEnd_any s A1 k1 (dispF s.p) _ (hS.on hB) hvB hP1 HDF.out).mono ?_
  rintro e W ⟨rfl, hb⟩
  clear c0 c1 c2 c3 c4 c5
  replace hk := hk.below hb hk.lt
  replace hP1 := hP1.on hb
  replace hB := hB.trans (hb.mono hB.size)
  clear hb
  have c0 := hk.cell_ 0 rfl
  have c1 := hk.cell_ 1 rfl
  have c2 := hk.cell_ 2 rfl
  have c3 := hk.cell_ 3 rfl
  have c4 := hk.cell_ 4 rfl
  have c5 := hk.cell_ 5 rfl
  rw [HDJ.out]
  go_wp2_with fail
  refine (refJudge_any s A c pl _ (hS.on hB) hv (hP.on hB) hpf).mono ?_
  rintro e W ⟨rfl, hb⟩
  clear c0 c1 c2 c3 c4 c5
  replace hk := hk.below hb hk.lt
  replace hP1 := hP1.on hb
  replace hB := hB.trans (hb.mono hB.size)
  clear hb
  have c0 := hk.cell_ 0 rfl
  have c1 := hk.cell_ 1 rfl
  have c2 := hk.cell_ 2 rfl
  have c3 := hk.cell_ 3 rfl
  have c4 := hk.cell_ 4 rfl
  have c5 := hk.cell_ 5 rfl
  rw [HV3.out]
  by_cases hz : (judgeF s.p pl).2.2 = 0
  · have HPJ := hide (pull_judge hv hz)
    have hpe : boundF s.p ≤ endV s.p (pullF s.p pl) := bound_end hv HPJ.out
    have HPF := hide (fits_of hv (pull_right hv hz).shape)
    have HPV := hide (show pullV s.p pl = pullF s.p pl by unfold pullV; rw [if_pos hz])
    have HZ := hide hz
    rw [HZ.out]
    clear hz
    clear hP1
    go_wp2_with fail
    refine (pull_any s A c pl _ (hS.on hB) hvB (hP.on hB) hpf).mono ?_
    rintro e W9 ⟨A2, k2, rfl, hb, hP2⟩
    obtain ⟨W, rfl⟩ : ∃ W : World, W = W9 := ⟨_, rfl⟩
    clear c0 c1 c2 c3 c4 c5
    replace hk := hk.below hb hk.lt
    replace hB := hB.trans (hb.mono hB.size)
    clear hb
    have c0 := hk.cell_ 0 rfl
    have c1 := hk.cell_ 1 rfl
    have c2 := hk.cell_ 2 rfl
    have c3 := hk.cell_ 3 rfl
    have c4 := hk.cell_ 4 rfl
    have c5 := hk.cell_ 5 rfl
    rw [HPV.out, HZ.out]
    rw [HPV.out] at hP2
    go_wp2_with fail
    refine (apiJudge_any s A2 k2 (pullF s.p pl) _ (hS.on hB) hvB hP2 HPF.out).mono ?_
    rintro e W ⟨rfl, hb⟩
    clear c0 c1 c2 c3 c4 c5
    replace hk := hk.below hb hk.lt
    replace hP2 := hP2.on hb
    replace hB := hB.trans (hb.mono hB.size)
    clear hb
    have c0 := hk.cell_ 0 rfl
    have c1 := hk.cell_ 1 rfl
    have c2 := hk.cell_ 2 rfl
    have c3 := hk.cell_ 3 rfl
    have c4 := hk.cell_ 4 rfl
    have c5 := hk.cell_ 5 rfl
    rw [HV3.out, HPJ.out]
    go_wp2_with fail
    refine (apiEnd_any s A2 k2 (pullF s.p pl) _ (hS.on hB) hvB hP2 HPF.out).mono ?_
    rintro e W ⟨rfl, hb⟩
    clear c0 c1 c2 c3 c4 c5
    replace hk := hk.below hb hk.lt
    replace hP2 := hP2.on hb
    replace hB := hB.trans (hb.mono hB.size)
    clear hb
    have c0 := hk.cell_ 0 rfl
    have c1 := hk.cell_ 1 rfl
    have c2 := hk.cell_ 2 rfl
    have c3 := hk.cell_ 3 rfl
    have c4 := hk.cell_ 4 rfl
    have c5 := hk.cell_ 5 rfl
    rw [HPJ.out]
    go_wp2_with fail
    refine (first_any _).mono ?_
    rintro e W ⟨rfl, hb⟩
    clear c0 c1 c2 c3 c4 c5
    replace hk := hk.below hb hk.lt
    replace hP2 := hP2.on hb
    replace hB := hB.trans (hb.mono hB.size)
    clear hb
    have c0 := hk.cell_ 0 rfl
    have c1 := hk.cell_ 1 rfl
    have c2 := hk.cell_ 2 rfl
    have c3 := hk.cell_ 3 rfl
    have c4 := hk.cell_ 4 rfl
    have c5 := hk.cell_ 5 rfl
    go_wp2_with fail
    go_ret
    exact ⟨rfl, hB⟩
  · have hzb : ((judgeF s.p pl).2.2 != 0) = true := by simpa using hz
    have HZ := hide hz
    clear hz
    go_wp2_with fail
    refine (first_any _).mono ?_
    rintro e W ⟨rfl, hb⟩
    clear c0 c1 c2 c3 c4 c5
    replace hk := hk.below hb hk.lt
    replace hP1 := hP1.on hb
    replace hB := hB.trans (hb.mono hB.size)
    clear hb
    have c0 := hk.cell_ 0 rfl
    have c1 := hk.cell_ 1 rfl
    have c2 := hk.cell_ 2 rfl
    have c3 := hk.cell_ 3 rfl
    have c4 := hk.cell_ 4 rfl
    have c5 := hk.cell_ 5 rfl
    go_wp2_with fail
    go_ret
    exact ⟨rfl, hB⟩
end Go.Proofs.Ytcpnfcnobnjhdaa

/- Pull of Pull is Pull, and the order of each machine stays: the plain law. -/
namespace Go.Proofs.Ytcpnfcnobnjhdaa
open Go Go.Sort Go.RowKit StabAt
section
variable {p : Shop} {R : List At}
/-- a plan that holds the starts of R answers with them -/
theorem refT_self (hv : VShop p) (hq : SeqOk p R) (hp : Placed p R) {O : List (List Int)} (he : ∀ c ∈ R, planAt O c.j c.k = c.t) {m : Int} {n : Nat} {b : At} (hn : (R.filter (onB m))[n]? = some b) : refT p O (R.filter (onB m)) n b = b.t := by
  obtain ⟨i, hb, hf, ht⟩ := filter_from hn
  have hm : b.x.m = m := by simpa [onB] using hf
  have hr : rdyO p O b = rdyR (R.take i) b.j := by
    unfold rdyO rdyR
    rcases hq.prev hb with ⟨g1, g2⟩ | ⟨k, g1, i', c, g2, g3, g4, g5, g6⟩
    · rw [g1, g2]
    · rw [g1, g6]
      simp only
      have hcm := List.mem_of_getElem? g3
      obtain ⟨s, q1, q2⟩ := hq.ok c hcm
      have g7 := he c hcm
      rw [g4] at q1 g7
      rw [g5] at q2 g7
      rw [stepAt_eq q1 q2, g7]
      rfl
  have hl : lastP (onB b.x.m) (R.take i) = prevI (R.filter (onB m)) n := by rw [hm]; exact lastP_prev ht hn
  have hpf : prevO p O (R.filter (onB m)) n b = fromR p (R.take i) b := by
    unfold prevO fromR
    rw [hl]
    cases n with
    | zero => exact hr
    | succ k =>
      simp only [prevI]
      cases hc : (R.filter (onB m))[k]? with
      | none => exact hr
      | some c =>
        simp only
        have hcm := (List.mem_filter.1 (List.mem_of_getElem? hc)).1
        rw [hr, show atO O c = c by unfold atO; rw [he c hcm]]
  unfold refT
  rw [hpf]
  exact (hp i b hb).1.symm
theorem SeqOk.nodup (hq : SeqOk p R) : R.Nodup := hq.asc.imp fun {a b} h he => by subst he; have := h rfl; omega
theorem planR_perm (hq : SeqOk p R) : (ats p (planR p R)).Perm R := by
  refine (List.perm_ext_iff_of_nodup (ats_seq p _).nodup hq.nodup).2 fun a => ⟨fun h => hq.of_at h, fun h => ?_⟩
  obtain ⟨s, h1, h2⟩ := hq.ok a h
  have h3 := ats_has (pl := planR p R) h1 h2
  rw [planR_eq hq h] at h3
  exact h3
theorem strict_room (hv : VShop p) {a b : At} {c : Int} (hm : 1 ≤ a.x.mi) (h : roomF p a c ≤ b.t) : a.t < b.t := by
  have := setupOf_ge hv a.x.m
  unfold roomF At.end_ at h
  split at h <;> omega
/-- the steps of a machine stand in the order in which they were put -/
theorem mach_order (hv : VShop p) (hq : SeqOk p R) (hp : Placed p R) (m : Int) : (sortA (ats p (planR p R))).filter (onB m) = R.filter (onB m) := by
  have hr := placed_right hv hq hp
  have hl := line_of hv hr
  refine List.Perm.eq_of_pairwise (le := fun a b => a.t < b.t) (fun a b _ _ h1 h2 => by omega) ?_ ?_ (((sortA_perm _).trans (planR_perm hq)).filter _)
  · rw [List.pairwise_iff_getElem]
    intro i j hi hj hij
    have hA := List.getElem?_eq_getElem hi
    have hB := List.getElem?_eq_getElem hj
    obtain ⟨u, hu, hfu, htu⟩ := filter_from hA
    obtain ⟨v, hv', hfv, htv⟩ := filter_from hB
    have huv : u < v := by
      rcases Nat.lt_trichotomy u v with h | h | h
      · exact h
      · subst h
        rw [htu] at htv
        have h1 := congrArg List.length htv
        rw [List.length_take, List.length_take] at h1
        omega
      · have h1 := congrArg List.length htu
        have h2 := congrArg List.length htv
        have h3 : ((List.take v (sortA (ats p (planR p R)))).filter (onB m)).length ≤ ((List.take u (sortA (ats p (planR p R)))).filter (onB m)).length := by
          have : List.take u (sortA (ats p (planR p R))) = List.take v (sortA (ats p (planR p R))) ++ ((sortA (ats p (planR p R))).drop v).take (u - v) := by
            rw [← List.take_add, show v + (u - v) = u by omega]
          rw [this, List.filter_append, List.length_append]; omega
        rw [List.length_take] at h1 h2
        omega
    have h1 := pair_get hl.tog huv hu hv'
    have h2 := pair_get hl.asc huv hu hv'
    have ha := hl.seq.step hv (List.mem_of_getElem? hu)
    have hb := hl.seq.step hv (List.mem_of_getElem? hv')
    generalize ((sortA (ats p (planR p R))).filter (onB m))[i] = a at *
    generalize ((sortA (ats p (planR p R))).filter (onB m))[j] = b at *
    have e1 : a.x.m = m := by simpa [onB] using hfu
    have e2 : b.x.m = m := by simpa [onB] using hfv
    unfold togB at h1
    simp only [Bool.or_eq_true, Bool.not_eq_true', decide_eq_false_iff_not, decide_eq_true_eq] at h1
    rcases h1 with (h1 | h1) | h1
    · exact absurd (e1.trans e2.symm) h1
    · exact strict_room hv ha.2.2.1 h1
    · have := strict_room hv hb.2.2.1 h1; omega
  · rw [List.pairwise_iff_getElem]
    intro i j hi hj hij
    have hA := List.getElem?_eq_getElem hi
    have hB := List.getElem?_eq_getElem hj
    obtain ⟨u, hu, hfu, htu⟩ := filter_from hA
    obtain ⟨v, hv', hfv, htv⟩ := filter_from hB
    have huv : u < v := by
      rcases Nat.lt_trichotomy u v with h | h | h
      · exact h
      · subst h
        rw [htu] at htv
        have h1 := congrArg List.length htv
        rw [List.length_take, List.length_take] at h1
        omega
      · have h1 := congrArg List.length htu
        have h2 := congrArg List.length htv
        have h3 : ((List.take v R).filter (onB m)).length ≤ ((List.take u R).filter (onB m)).length := by
          have : List.take u R = List.take v R ++ (R.drop v).take (u - v) := by
            rw [← List.take_add, show v + (u - v) = u by omega]
          rw [this, List.filter_append, List.length_append]; omega
        rw [List.length_take] at h1 h2
        omega
    have ha := hq.step hv (List.mem_of_getElem? hu)
    generalize (R.filter (onB m))[i] = a at *
    generalize (R.filter (onB m))[j] = b at *
    have e1 : a.x.m = m := by simpa [onB] using hfu
    have e2 : b.x.m = m := by simpa [onB] using hfv
    exact strict_room hv ha.2.2.1 (room_chain hv hq hp v u a b huv hu hv' (e1.trans e2.symm))
end
/-- Pull of Pull is Pull -/
theorem pull_pull {p : Shop} (hv : VShop p) {pl : List (List Int)} (hz : (judgeF p pl).2.2 = 0) : pullF p (pullF p pl) = pullF p pl := by
  have hl := line_of hv (right_of hz)
  have hq := (pull_alike p _).seq hl.seq
  have hp := pull_placed hv hl
  have hz2 := pull_judge hv hz
  have hl2 := line_of hv (right_of hz2)
  have ha2 := pull_alike p (sortA (ats p (pullF p pl)))
  have hq2 := ha2.seq hl2.seq
  have hp2 := pull_placed hv hl2
  show planR p (pullL p [] (sortA (ats p (pullF p pl)))) = planR p (pullL p [] (sortA (ats p pl)))
  have hmo : ∀ m, (sortA (ats p (pullF p pl))).filter (onB m) = (pullL p [] (sortA (ats p pl))).filter (onB m) := mach_order hv hq hp
  have hval : ∀ b ∈ pullL p [] (sortA (ats p pl)), planAt (pullF p pl) b.j b.k = b.t := fun b hb => planR_eq hq hb
  have hle2 : ∀ b ∈ pullL p [] (sortA (ats p pl)), planAt (planR p (pullL p [] (sortA (ats p (pullF p pl))))) b.j b.k ≤ b.t := fun b hb => by
    obtain ⟨s, h1, h2⟩ := hq.ok b hb
    have := pull_at hv hz2 h1 h2
    rw [hval b hb] at this
    exact this
  generalize pullL p [] (sortA (ats p pl)) = R at *
  generalize hR2 : pullL p [] (sortA (ats p (pullF p pl))) = R2 at *
  have h0 : ∀ b ∈ R2, 0 ≤ b.t := fun b hb => by
    obtain ⟨i, hi⟩ := List.getElem?_of_mem hb
    exact (hp2 i b hi).2.1
  have hok : OutOk p R (planR p R2) := by
    refine ⟨planR_len p R2, fun j s l hj hl' => ?_, fun b hb => ⟨?_, hle2 b hb⟩⟩
    · rw [planR_row hj] at hl'
      injection hl' with hl'
      rw [← hl']; simp
    · obtain ⟨s, h1, h2⟩ := hq.ok b hb
      obtain ⟨b2, hb2, e1, e2⟩ := hq2.all b.j b.k s b.x h1 h2
      have h3 := planR_eq hq2 hb2
      rw [e1, e2] at h3
      rw [h3]
      exact h0 b2 hb2
  refine hok.eq hv hq (refT_done hv hq hp hok fun m _ n b hn => ?_)
  -- the same order on the machine in R2
  have hk : (R2.filter (onB (m : Int))).map key = (R.filter (onB (m : Int))).map key := by
    rw [← filter_keys (m := (m : Int)) ha2.keys, hmo]
  obtain ⟨b2, hb2, e1, e2, e3⟩ := keys_get hk.symm hn
  have h1 := refT_self hv hq2 hp2 (O := planR p R2) (fun c hc => planR_eq hq2 hc) hb2
  have h2 := refT_key (O := planR p R2) (p := p) hk.symm e1 e2 e3 n
  have h3 := planR_eq hq2 (List.mem_filter.1 (List.mem_of_getElem? hb2)).1
  rw [e1, e2] at h3
  rw [h2, h1, h3]
  exact Int.le_refl _
theorem map_pairs {l R : List At} (h : l.map key = R.map key) : l.map (fun a => (a.j, a.k)) = R.map fun a => (a.j, a.k) := by
  have := congrArg (List.map fun q : Nat × Nat × Step => (q.1, q.2.1)) h
  simpa [List.map_map, Function.comp_def, key] using this
/-- the order on a machine, before and after -/
theorem order_same {p : Shop} (hv : VShop p) {pl : List (List Int)} (hz : (judgeF p pl).2.2 = 0) (m : Int) : (sortA (onM (ats p (pullF p pl)) m)).map key = (sortA (onM (ats p pl) m)).map key := by
  have hl := line_of hv (right_of hz)
  have hq := (pull_alike p _).seq hl.seq
  have hp := pull_placed hv hl
  have h1 := mach_order hv hq hp m
  have h2 := filter_keys (m := m) (pull_alike p (sortA (ats p pl))).keys
  have e1 : ∀ l : List At, sortA (onM l m) = (sortA l).filter (onB m) := fun l => (sortA_filter _ _).symm
  rw [e1, e1]
  rw [h2]
  exact congrArg (List.map key) h1
end Go.Proofs.Ytcpnfcnobnjhdaa

/- The law ShopOrders: the walk. -/
namespace Go.Proofs.Ytcpnfcnobnjhdaa
open Go.RowKit
theorem ordL_in {p : Shop} {pl : List (List Int)} {m : Int} (h0 : 0 ≤ m) (h1 : m < p.mach) : ordL p pl m = (rightL p pl).filter (fun a => decide (a.x.m = m)) ∧ ordE p pl m = (judgeF p pl).2.2 := by
  have h : inB 0 m (p.mach - 1) = true := inB_iff.2 ⟨h0, by omega⟩
  unfold ordL ordE
  rw [h]
  exact ⟨rfl, rfl⟩
theorem ordL_out {p : Shop} {pl : List (List Int)} {m : Int} (h : m < 0 ∨ p.mach ≤ m) : ordL p pl m = [] ∧ ordE p pl m = 2 := by
  have h : inB 0 m (p.mach - 1) = false := inB_false.2 (by omega)
  unfold ordL ordE
  rw [h]
  exact ⟨rfl, rfl⟩
theorem rightL_yes {p : Shop} {pl : List (List Int)} (h : (judgeF p pl).2.2 = 0) : rightL p pl = sortA (ats p pl) := by unfold rightL; rw [if_pos h]
theorem rightL_no {p : Shop} {pl : List (List Int)} (h : (judgeF p pl).2.2 ≠ 0) : rightL p pl = [] := by unfold rightL; rw [if_neg h]
theorem endV_no {p : Shop} {pl : List (List Int)} (h : (judgeF p pl).2.2 ≠ 0) : endV p pl = 0 := by unfold endV; rw [rightL_no h]; rfl
theorem ordL_yes {p : Shop} {pl : List (List Int)} {m : Int} (h0 : 0 ≤ m) (h1 : m < p.mach) (h : (judgeF p pl).2.2 = 0) : ordL p pl m = sortA (onM (ats p pl) m) ∧ ordE p pl m = 0 := by
  obtain ⟨h2, h3⟩ := ordL_in (pl := pl) h0 h1
  rw [h2, h3, rightL_yes h, sortA_filter]
  exact ⟨rfl, h⟩
theorem ordL_bad {p : Shop} {pl : List (List Int)} {m : Int} (h0 : 0 ≤ m) (h1 : m < p.mach) (h : (judgeF p pl).2.2 ≠ 0) : ordL p pl m = [] ∧ ordE p pl m = (judgeF p pl).2.2 := by
  obtain ⟨h2, h3⟩ := ordL_in (pl := pl) h0 h1
  rw [h2, h3, rightL_no h]
  exact ⟨rfl, rfl⟩
set_option maxRecDepth 200000 in
set_option maxHeartbeats 4000000 in
theorem orders_walk (s : Sh) (A : Option Addr) (c : Nat) (pl : List (List Int)) (mc : Int) (w : World) (hS : ShAt w w.heap.size s) (hf : Fits s.p) (hP : Plan w w.heap.size A pl) (hpf : PFits pl) :
    Calls Try.prog 11 #[.agg #[.int .i64 s.p.op, .int .i64 s.p.cl, .slice s.aH s.p.hol.length s.cH, .int .i64 s.p.mach, .slice s.aS s.p.setup.length s.cS, .slice s.aJ s.p.jobs.length s.cJ], .slice A pl.length c, .int .i64 mc] w fun e w' => e = .returned (.bool true) ∧ Below w.heap.size w w' := by
  have hk := Blk.new w 25 #[.int .i64 s.p.op, .int .i64 s.p.cl, .slice s.aH s.p.hol.length s.cH, .int .i64 s.p.mach, .slice s.aS s.p.setup.length s.cS, .slice s.aJ s.p.jobs.length s.cJ]
  have hB := (Below.refl w.heap.size w).alloc (Nat.le_refl _) (.cells #[.int .i64 s.p.op, .int .i64 s.p.cl, .slice s.aH s.p.hol.length s.cH, .int .i64 s.p.mach, .slice s.aS s.p.setup.length s.cS, .slice s.aJ s.p.jobs.length s.cJ] 25)
  go_enter Try.func11, Try.ntmps11
  go_wp2_with fail
  generalize w.alloc (.cells #[.int .i64 s.p.op, .int .i64 s.p.cl, .slice s.aH s.p.hol.length s.cH, .int .i64 s.p.mach, .slice s.aS s.p.setup.length s.cS, .slice s.aJ s.p.jobs.length s.cJ] 25) = W at *
  have c0 := hk.cell_ 0 rfl
  have c1 := hk.cell_ 1 rfl
  have c2 := hk.cell_ 2 rfl
  have c3 := hk.cell_ 3 rfl
  have c4 := hk.cell_ 4 rfl
  have c5 := hk.cell_ 5 rfl
  go_wp2_with fail
  refine (long_any s _ (hS.on hB) hf.h1 hf.h2 hf.h3 hf.h4).mono ?_
  rintro e W ⟨rfl, hb⟩
  clear c0 c1 c2 c3 c4 c5
  replace hk := hk.below hb hk.lt
  replace hB := hB.trans (hb.mono hB.size)
  clear hb
  have c0 := hk.cell_ 0 rfl
  have c1 := hk.cell_ 1 rfl
  have c2 := hk.cell_ 2 rfl
  have c3 := hk.cell_ 3 rfl
  have c4 := hk.cell_ 4 rfl
  have c5 := hk.cell_ 5 rfl
  cases hl : longB s.p
  case true =>
    go_wp2_with fail
    refine (first_any _).mono ?_
    rintro e W ⟨rfl, hb⟩
    clear c0 c1 c2 c3 c4 c5
    replace hk := hk.below hb hk.lt
    replace hB := hB.trans (hb.mono hB.size)
    clear hb
    have c0 := hk.cell_ 0 rfl
    have c1 := hk.cell_ 1 rfl
    have c2 := hk.cell_ 2 rfl
    have c3 := hk.cell_ 3 rfl
    have c4 := hk.cell_ 4 rfl
    have c5 := hk.cell_ 5 rfl
    go_wp2_with fail
    go_ret
    exact ⟨rfl, hB⟩
  go_wp2_with fail
  refine (wide_any A c pl _ (hP.on hB) hpf).mono ?_
  rintro e W ⟨rfl, hb⟩
  clear c0 c1 c2 c3 c4 c5
  replace hk := hk.below hb hk.lt
  replace hB := hB.trans (hb.mono hB.size)
  clear hb
  have c0 := hk.cell_ 0 rfl
  have c1 := hk.cell_ 1 rfl
  have c2 := hk.cell_ 2 rfl
  have c3 := hk.cell_ 3 rfl
  have c4 := hk.cell_ 4 rfl
  have c5 := hk.cell_ 5 rfl
  cases hw : wideB pl
  case true =>
    go_wp2_with fail
    refine (first_any _).mono ?_
    rintro e W ⟨rfl, hb⟩
    clear c0 c1 c2 c3 c4 c5
    replace hk := hk.below hb hk.lt
    replace hB := hB.trans (hb.mono hB.size)
    clear hb
    have c0 := hk.cell_ 0 rfl
    have c1 := hk.cell_ 1 rfl
    have c2 := hk.cell_ 2 rfl
    have c3 := hk.cell_ 3 rfl
    have c4 := hk.cell_ 4 rfl
    have c5 := hk.cell_ 5 rfl
    go_wp2_with fail
    go_ret
    exact ⟨rfl, hB⟩
  go_wp2_with fail
  refine (refValid_any s _ (hS.on hB) hf.h1 hf.h2 hf.h3 hf.h4).mono ?_
  rintro e W ⟨rfl, hb⟩
  clear c0 c1 c2 c3 c4 c5
  replace hk := hk.below hb hk.lt
  replace hB := hB.trans (hb.mono hB.size)
  clear hb
  have c0 := hk.cell_ 0 rfl
  have c1 := hk.cell_ 1 rfl
  have c2 := hk.cell_ 2 rfl
  have c3 := hk.cell_ 3 rfl
  have c4 := hk.cell_ 4 rfl
  have c5 := hk.cell_ 5 rfl
  cases hvB : validShop s.p
  case false =>
    go_wp2_with fail
    refine (first_any _).mono ?_
    rintro e W ⟨rfl, hb⟩
    clear c0 c1 c2 c3 c4 c5
    replace hk := hk.below hb hk.lt
    replace hB := hB.trans (hb.mono hB.size)
    clear hb
    have c0 := hk.cell_ 0 rfl
    have c1 := hk.cell_ 1 rfl
    have c2 := hk.cell_ 2 rfl
    have c3 := hk.cell_ 3 rfl
    have c4 := hk.cell_ 4 rfl
    have c5 := hk.cell_ 5 rfl
    go_wp2_with fail
    go_ret
    exact ⟨rfl, hB⟩
  have hv := valid_facts hvB
  have hjn := hv.jobn
  have hm1 := hv.mach1
  have hm6 := hv.mach6
  have HV3 : Hid (V3 (judgeF s.p pl) = .tuple #[.int .i64 (judgeF s.p pl).1, .int .i64 (judgeF s.p pl).2.1, .int .i64 (judgeF s.p pl).2.2]) := rfl
  by_cases hz : (judgeF s.p pl).2.2 = 0
  · have HP := hide (shaped_facts (judge_shaped hz))
    have HEV := hide (endA_eq hz)
    rcases (show (mc < 0 ∨ s.p.mach ≤ mc) ∨ (0 ≤ mc ∧ mc < s.p.mach) by omega) with ho | ⟨h0, h1⟩
    · obtain ⟨q1, q2⟩ := ordL_out (pl := pl) ho
      have HOL := hide q1
      have HOE := hide q2
      have HZ := hide hz
      clear q1 q2 hz
      go_wp2_with fail
      refine (apiEnd_any s A c pl _ (hS.on hB) hvB (hP.on hB) hpf).mono ?_
      rintro e W ⟨rfl, hb⟩
      clear c0 c1 c2 c3 c4 c5
      replace hk := hk.below hb hk.lt
      replace hB := hB.trans (hb.mono hB.size)
      clear hb
      have c0 := hk.cell_ 0 rfl
      have c1 := hk.cell_ 1 rfl
      have c2 := hk.cell_ 2 rfl
      have c3 := hk.cell_ 3 rfl
      have c4 := hk.cell_ 4 rfl
      have c5 := hk.cell_ 5 rfl
      go_wp2_with fail
      refine (apiOrder_any s A c pl mc _ (hS.on hB) hvB (hP.on hB) hpf).mono ?_
      rintro e W9 ⟨AO, cO, rfl, hb, hO⟩
      rw [HOL.out, HOE.out]
      rw [HOL.out] at hO
      obtain ⟨W, rfl⟩ : ∃ W : World, W = W9 := ⟨_, rfl⟩
      clear c0 c1 c2 c3 c4 c5
      replace hk := hk.below hb hk.lt
      replace hB := hB.trans (hb.mono hB.size)
      clear hb
      have c0 := hk.cell_ 0 rfl
      have c1 := hk.cell_ 1 rfl
      have c2 := hk.cell_ 2 rfl
      have c3 := hk.cell_ 3 rfl
      have c4 := hk.cell_ 4 rfl
      have c5 := hk.cell_ 5 rfl
      rw [HZ.out]
      go_wp2_with fail
      refine (refJudge_any s A c pl _ (hS.on hB) hv (hP.on hB) hpf).mono ?_
      rintro e W ⟨rfl, hb⟩
      clear c0 c1 c2 c3 c4 c5
      replace hk := hk.below hb hk.lt
      replace hO := hO.on hb
      replace hB := hB.trans (hb.mono hB.size)
      clear hb
      have c0 := hk.cell_ 0 rfl
      have c1 := hk.cell_ 1 rfl
      have c2 := hk.cell_ 2 rfl
      have c3 := hk.cell_ 3 rfl
      have c4 := hk.cell_ 4 rfl
      have c5 := hk.cell_ 5 rfl
      rw [HV3.out, HZ.out, ← HEV.out]
      by_cases hm0 : mc < 0
      · go_wp2_with fail
        refine (refEnd_any s A c pl _ (hS.on hB) hv (hP.on hB) HP.out).mono ?_
        rintro e W ⟨rfl, hb⟩
        clear c0 c1 c2 c3 c4 c5
        replace hk := hk.below hb hk.lt
        replace hO := hO.on hb
        replace hB := hB.trans (hb.mono hB.size)
        clear hb
        have c0 := hk.cell_ 0 rfl
        have c1 := hk.cell_ 1 rfl
        have c2 := hk.cell_ 2 rfl
        have c3 := hk.cell_ 3 rfl
        have c4 := hk.cell_ 4 rfl
        have c5 := hk.cell_ 5 rfl
        go_wp2_with fail
        refine (first_any _).mono ?_
        rintro e W ⟨rfl, hb⟩
        clear c0 c1 c2 c3 c4 c5
        replace hk := hk.below hb hk.lt
        replace hO := hO.on hb
        replace hB := hB.trans (hb.mono hB.size)
        clear hb
        have c0 := hk.cell_ 0 rfl
        have c1 := hk.cell_ 1 rfl
        have c2 := hk.cell_ 2 rfl
        have c3 := hk.cell_ 3 rfl
        have c4 := hk.cell_ 4 rfl
        have c5 := hk.cell_ 5 rfl
        go_wp2_with fail
        go_ret
        exact ⟨rfl, hB⟩
      · have hge : s.p.mach ≤ mc := by omega
        go_wp2_with fail
        refine (refEnd_any s A c pl _ (hS.on hB) hv (hP.on hB) HP.out).mono ?_
        rintro e W ⟨rfl, hb⟩
        clear c0 c1 c2 c3 c4 c5
        replace hk := hk.below hb hk.lt
        replace hO := hO.on hb
        replace hB := hB.trans (hb.mono hB.size)
        clear hb
        have c0 := hk.cell_ 0 rfl
        have c1 := hk.cell_ 1 rfl
        have c2 := hk.cell_ 2 rfl
        have c3 := hk.cell_ 3 rfl
        have c4 := hk.cell_ 4 rfl
        have c5 := hk.cell_ 5 rfl
        go_wp2_with fail
        refine (first_any _).mono ?_
        rintro e W ⟨rfl, hb⟩
        clear c0 c1 c2 c3 c4 c5
        replace hk := hk.below hb hk.lt
        replace hO := hO.on hb
        replace hB := hB.trans (hb.mono hB.size)
        clear hb
        have c0 := hk.cell_ 0 rfl
        have c1 := hk.cell_ 1 rfl
        have c2 := hk.cell_ 2 rfl
        have c3 := hk.cell_ 3 rfl
        have c4 := hk.cell_ 4 rfl
        have c5 := hk.cell_ 5 rfl
        go_wp2_with fail
        go_ret
        exact ⟨rfl, hB⟩
    · obtain ⟨q1, q2⟩ := ordL_yes (pl := pl) h0 h1 hz
      have HOL := hide q1
      have HOE := hide q2
      have HZ := hide hz
      have hlen : (sortA (onM (ats s.p pl) mc)).length ≤ 9223372036854775807 := by
        have := (sortA_perm (onM (ats s.p pl) mc)).length_eq
        have h2 : (onM (ats s.p pl) mc).length ≤ (ats s.p pl).length := List.length_filter_le _ _
        have h3 := ats_len s.p pl
        have h4 := ents_len hv
        omega
      clear q1 q2 hz
      go_wp2_with fail
      refine (apiEnd_any s A c pl _ (hS.on hB) hvB (hP.on hB) hpf).mono ?_
      rintro e W ⟨rfl, hb⟩
      clear c0 c1 c2 c3 c4 c5
      replace hk := hk.below hb hk.lt
      replace hB := hB.trans (hb.mono hB.size)
      clear hb
      have c0 := hk.cell_ 0 rfl
      have c1 := hk.cell_ 1 rfl
      have c2 := hk.cell_ 2 rfl
      have c3 := hk.cell_ 3 rfl
      have c4 := hk.cell_ 4 rfl
      have c5 := hk.cell_ 5 rfl
      go_wp2_with fail
      refine (apiOrder_any s A c pl mc _ (hS.on hB) hvB (hP.on hB) hpf).mono ?_
      rintro e W9 ⟨AO, cO, rfl, hb, hO⟩
      rw [HOL.out, HOE.out]
      rw [HOL.out] at hO
      obtain ⟨W, rfl⟩ : ∃ W : World, W = W9 := ⟨_, rfl⟩
      clear c0 c1 c2 c3 c4 c5
      replace hk := hk.below hb hk.lt
      replace hB := hB.trans (hb.mono hB.size)
      clear hb
      have c0 := hk.cell_ 0 rfl
      have c1 := hk.cell_ 1 rfl
      have c2 := hk.cell_ 2 rfl
      have c3 := hk.cell_ 3 rfl
      have c4 := hk.cell_ 4 rfl
      have c5 := hk.cell_ 5 rfl
      rw [HZ.out]
      go_wp2_with fail
      refine (refJudge_any s A c pl _ (hS.on hB) hv (hP.on hB) hpf).mono ?_
      rintro e W ⟨rfl, hb⟩
      clear c0 c1 c2 c3 c4 c5
      replace hk := hk.below hb hk.lt
      replace hO := hO.on hb
      replace hB := hB.trans (hb.mono hB.size)
      clear hb
      have c0 := hk.cell_ 0 rfl
      have c1 := hk.cell_ 1 rfl
      have c2 := hk.cell_ 2 rfl
      have c3 := hk.cell_ 3 rfl
      have c4 := hk.cell_ 4 rfl
      have c5 := hk.cell_ 5 rfl
      rw [HV3.out, HZ.out, ← HEV.out]
      go_wp2_with fail
      refine (refEnd_any s A c pl _ (hS.on hB) hv (hP.on hB) HP.out).mono ?_
      rintro e W ⟨rfl, hb⟩
      clear c0 c1 c2 c3 c4 c5
      replace hk := hk.below hb hk.lt
      replace hO := hO.on hb
      replace hB := hB.trans (hb.mono hB.size)
      clear hb
      have c0 := hk.cell_ 0 rfl
      have c1 := hk.cell_ 1 rfl
      have c2 := hk.cell_ 2 rfl
      have c3 := hk.cell_ 3 rfl
      have c4 := hk.cell_ 4 rfl
      have c5 := hk.cell_ 5 rfl
      go_wp2_with fail
      refine (refOrder_any s A c pl mc _ (hS.on hB) hv (hP.on hB) HP.out).mono ?_
      rintro e W ⟨A8, k8, rfl, hb, hO2⟩
      clear c0 c1 c2 c3 c4 c5
      replace hk := hk.below hb hk.lt
      replace hO := hO.on hb
      replace hB := hB.trans (hb.mono hB.size)
      clear hb
      have c0 := hk.cell_ 0 rfl
      have c1 := hk.cell_ 1 rfl
      have c2 := hk.cell_ 2 rfl
      have c3 := hk.cell_ 3 rfl
      have c4 := hk.cell_ 4 rfl
      have c5 := hk.cell_ 5 rfl
      go_wp2_with fail
      refine (samePairs_any AO A8 cO k8 _ _ hlen hO hO2).mono ?_
      rintro e W ⟨rfl, hb⟩
      clear c0 c1 c2 c3 c4 c5
      replace hk := hk.below hb hk.lt
      replace hO := hO.on hb
      replace hO2 := hO2.on hb
      replace hB := hB.trans (hb.mono hB.size)
      clear hb
      have c0 := hk.cell_ 0 rfl
      have c1 := hk.cell_ 1 rfl
      have c2 := hk.cell_ 2 rfl
      have c3 := hk.cell_ 3 rfl
      have c4 := hk.cell_ 4 rfl
      have c5 := hk.cell_ 5 rfl
      go_wp2_with fail
      refine (first_any _).mono ?_
      rintro e W ⟨rfl, hb⟩
      clear c0 c1 c2 c3 c4 c5
      replace hk := hk.below hb hk.lt
      replace hO := hO.on hb
      replace hO2 := hO2.on hb
      replace hB := hB.trans (hb.mono hB.size)
      clear hb
      have c0 := hk.cell_ 0 rfl
      have c1 := hk.cell_ 1 rfl
      have c2 := hk.cell_ 2 rfl
      have c3 := hk.cell_ 3 rfl
      have c4 := hk.cell_ 4 rfl
      have c5 := hk.cell_ 5 rfl
      go_wp2_with fail
      go_ret
      exact ⟨rfl, hB⟩
  · have HEV := hide (endV_no hz)
    have hzb : ((judgeF s.p pl).2.2 != 0) = true := by simpa using hz
    rcases (show (mc < 0 ∨ s.p.mach ≤ mc) ∨ (0 ≤ mc ∧ mc < s.p.mach) by omega) with ho | ⟨h0, h1⟩
    · obtain ⟨q1, q2⟩ := ordL_out (pl := pl) ho
      have HOL := hide q1
      have HOE := hide q2
      have HZ := hide hz
      clear q1 q2 hz
      go_wp2_with fail
      refine (apiEnd_any s A c pl _ (hS.on hB) hvB (hP.on hB) hpf).mono ?_
      rintro e W ⟨rfl, hb⟩
      clear c0 c1 c2 c3 c4 c5
      replace hk := hk.below hb hk.lt
      replace hB := hB.trans (hb.mono hB.size)
      clear hb
      have c0 := hk.cell_ 0 rfl
      have c1 := hk.cell_ 1 rfl
      have c2 := hk.cell_ 2 rfl
      have c3 := hk.cell_ 3 rfl
      have c4 := hk.cell_ 4 rfl
      have c5 := hk.cell_ 5 rfl
      go_wp2_with fail
      refine (apiOrder_any s A c pl mc _ (hS.on hB) hvB (hP.on hB) hpf).mono ?_
      rintro e W9 ⟨AO, cO, rfl, hb, hO⟩
      rw [HOL.out, HOE.out]
      rw [HOL.out] at hO
      obtain ⟨W, rfl⟩ : ∃ W : World, W = W9 := ⟨_, rfl⟩
      clear c0 c1 c2 c3 c4 c5
      replace hk := hk.below hb hk.lt
      replace hB := hB.trans (hb.mono hB.size)
      clear hb
      have c0 := hk.cell_ 0 rfl
      have c1 := hk.cell_ 1 rfl
      have c2 := hk.cell_ 2 rfl
      have c3 := hk.cell_ 3 rfl
      have c4 := hk.cell_ 4 rfl
      have c5 := hk.cell_ 5 rfl
      rw [HEV.out]
      go_wp2_with fail
      refine (refJudge_any s A c pl _ (hS.on hB) hv (hP.on hB) hpf).mono ?_
      rintro e W ⟨rfl, hb⟩
      clear c0 c1 c2 c3 c4 c5
      replace hk := hk.below hb hk.lt
      replace hO := hO.on hb
      replace hB := hB.trans (hb.mono hB.size)
      clear hb
      have c0 := hk.cell_ 0 rfl
      have c1 := hk.cell_ 1 rfl
      have c2 := hk.cell_ 2 rfl
      have c3 := hk.cell_ 3 rfl
      have c4 := hk.cell_ 4 rfl
      have c5 := hk.cell_ 5 rfl
      rw [HV3.out]
      by_cases hm0 : mc < 0
      · go_wp2_with fail
        refine (first_any _).mono ?_
        rintro e W ⟨rfl, hb⟩
        clear c0 c1 c2 c3 c4 c5
        replace hk := hk.below hb hk.lt
        replace hO := hO.on hb
        replace hB := hB.trans (hb.mono hB.size)
        clear hb
        have c0 := hk.cell_ 0 rfl
        have c1 := hk.cell_ 1 rfl
        have c2 := hk.cell_ 2 rfl
        have c3 := hk.cell_ 3 rfl
        have c4 := hk.cell_ 4 rfl
        have c5 := hk.cell_ 5 rfl
        go_wp2_with fail
        go_ret
        exact ⟨rfl, hB⟩
      · have hge : s.p.mach ≤ mc := by omega
        go_wp2_with fail
        refine (first_any _).mono ?_
        rintro e W ⟨rfl, hb⟩
        clear c0 c1 c2 c3 c4 c5
        replace hk := hk.below hb hk.lt
        replace hO := hO.on hb
        replace hB := hB.trans (hb.mono hB.size)
        clear hb
        have c0 := hk.cell_ 0 rfl
        have c1 := hk.cell_ 1 rfl
        have c2 := hk.cell_ 2 rfl
        have c3 := hk.cell_ 3 rfl
        have c4 := hk.cell_ 4 rfl
        have c5 := hk.cell_ 5 rfl
        go_wp2_with fail
        go_ret
        exact ⟨rfl, hB⟩
    · obtain ⟨q1, q2⟩ := ordL_bad (pl := pl) h0 h1 hz
      have HOL := hide q1
      have HOE := hide q2
      have HZ := hide hz
      clear q1 q2 hz
      go_wp2_with fail
      refine (apiEnd_any s A c pl _ (hS.on hB) hvB (hP.on hB) hpf).mono ?_
      rintro e W ⟨rfl, hb⟩
      clear c0 c1 c2 c3 c4 c5
      replace hk := hk.below hb hk.lt
      replace hB := hB.trans (hb.mono hB.size)
      clear hb
      have c0 := hk.cell_ 0 rfl
      have c1 := hk.cell_ 1 rfl
      have c2 := hk.cell_ 2 rfl
      have c3 := hk.cell_ 3 rfl
      have c4 := hk.cell_ 4 rfl
      have c5 := hk.cell_ 5 rfl
      go_wp2_with fail
      refine (apiOrder_any s A c pl mc _ (hS.on hB) hvB (hP.on hB) hpf).mono ?_
      rintro e W9 ⟨AO, cO, rfl, hb, hO⟩
      rw [HOL.out, HOE.out]
      rw [HOL.out] at hO
      obtain ⟨W, rfl⟩ : ∃ W : World, W = W9 := ⟨_, rfl⟩
      clear c0 c1 c2 c3 c4 c5
      replace hk := hk.below hb hk.lt
      replace hB := hB.trans (hb.mono hB.size)
      clear hb
      have c0 := hk.cell_ 0 rfl
      have c1 := hk.cell_ 1 rfl
      have c2 := hk.cell_ 2 rfl
      have c3 := hk.cell_ 3 rfl
      have c4 := hk.cell_ 4 rfl
      have c5 := hk.cell_ 5 rfl
      rw [HEV.out]
      go_wp2_with fail
      refine (refJudge_any s A c pl _ (hS.on hB) hv (hP.on hB) hpf).mono ?_
      rintro e W ⟨rfl, hb⟩
      clear c0 c1 c2 c3 c4 c5
      replace hk := hk.below hb hk.lt
      replace hO := hO.on hb
      replace hB := hB.trans (hb.mono hB.size)
      clear hb
      have c0 := hk.cell_ 0 rfl
      have c1 := hk.cell_ 1 rfl
      have c2 := hk.cell_ 2 rfl
      have c3 := hk.cell_ 3 rfl
      have c4 := hk.cell_ 4 rfl
      have c5 := hk.cell_ 5 rfl
      rw [HV3.out]
      go_wp2_with fail
      refine (first_any _).mono ?_
      rintro e W ⟨rfl, hb⟩
      clear c0 c1 c2 c3 c4 c5
      replace hk := hk.below hb hk.lt
      replace hO := hO.on hb
      replace hB := hB.trans (hb.mono hB.size)
      clear hb
      have c0 := hk.cell_ 0 rfl
      have c1 := hk.cell_ 1 rfl
      have c2 := hk.cell_ 2 rfl
      have c3 := hk.cell_ 3 rfl
      have c4 := hk.cell_ 4 rfl
      have c5 := hk.cell_ 5 rfl
      go_wp2_with fail
      go_ret
      exact ⟨rfl, hB⟩
end Go.Proofs.Ytcpnfcnobnjhdaa

/- The law ShopEarlier: the walk. -/
namespace Go.Proofs.Ytcpnfcnobnjhdaa
open Go.RowKit
theorem slc_keys {w : World} {B : Nat} {A : Option Addr} {l R : List At} (hs : Slc AP 2 w B A l) (h : l.map key = R.map key) : Slc AP 2 w B A R := fun i b hb => by
  obtain ⟨a, ha, e1, e2, _⟩ := keys_get h.symm hb
  have : AP b = AP a := by unfold AP; rw [e1, e2]
  rw [this]
  exact hs i a ha
theorem v3' (p : Shop) (pl : List (List Int)) : V3 (judgeF p pl) = .tuple #[.int .i64 (judgeF p pl).1, .int .i64 (judgeF p pl).2.1, .int .i64 (judgeF p pl).2.2] := rfl
theorem apiOrder_n (s : Sh) (A : Option Addr) (c n : Nat) (pl : List (List Int)) (mc : Int) (w : World) (hn : pl.length = n) (hS : ShAt w w.heap.size s) (hvB : validShop s.p = true) (hP : Plan w w.heap.size A pl) (hf : PFits pl) :
    Calls Try.prog 40 #[.agg #[.int .i64 s.p.op, .int .i64 s.p.cl, .slice s.aH s.p.hol.length s.cH, .int .i64 s.p.mach, .slice s.aS s.p.setup.length s.cS, .slice s.aJ s.p.jobs.length s.cJ], .slice A n c, .int .i64 mc] w fun e w' => ∃ A' c', e = .returned (.tuple #[.slice A' (ordL s.p pl mc).length c', .int .i64 (ordE s.p pl mc)]) ∧ Below w.heap.size w w' ∧ Slc AP 2 w' w'.heap.size A' (ordL s.p pl mc) := by
  subst hn; exact apiOrder_any s A c pl mc w hS hvB hP hf
set_option maxRecDepth 200000 in
set_option maxHeartbeats 4000000 in
theorem earlier_walk (s : Sh) (A : Option Addr) (c : Nat) (pl : List (List Int)) (w : World) (hS : ShAt w w.heap.size s) (hf : Fits s.p) (hP : Plan w w.heap.size A pl) (hpf : PFits pl) :
    Calls Try.prog 13 #[.agg #[.int .i64 s.p.op, .int .i64 s.p.cl, .slice s.aH s.p.hol.length s.cH, .int .i64 s.p.mach, .slice s.aS s.p.setup.length s.cS, .slice s.aJ s.p.jobs.length s.cJ], .slice A pl.length c] w fun e w' => e = .returned (.bool true) ∧ Below w.heap.size w w' := by
  have hk := Blk.new w 25 #[.int .i64 s.p.op, .int .i64 s.p.cl, .slice s.aH s.p.hol.length s.cH, .int .i64 s.p.mach, .slice s.aS s.p.setup.length s.cS, .slice s.aJ s.p.jobs.length s.cJ]
  have hB := (Below.refl w.heap.size w).alloc (Nat.le_refl _) (.cells #[.int .i64 s.p.op, .int .i64 s.p.cl, .slice s.aH s.p.hol.length s.cH, .int .i64 s.p.mach, .slice s.aS s.p.setup.length s.cS, .slice s.aJ s.p.jobs.length s.cJ] 25)
  go_enter Try.func13, Try.ntmps13
  go_wp2_with fail
  generalize w.alloc (.cells #[.int .i64 s.p.op, .int .i64 s.p.cl, .slice s.aH s.p.hol.length s.cH, .int .i64 s.p.mach, .slice s.aS s.p.setup.length s.cS, .slice s.aJ s.p.jobs.length s.cJ] 25) = W at *
  have c0 := hk.cell_ 0 rfl
  have c1 := hk.cell_ 1 rfl
  have c2 := hk.cell_ 2 rfl
  have c3 := hk.cell_ 3 rfl
  have c4 := hk.cell_ 4 rfl
  have c5 := hk.cell_ 5 rfl
  go_wp2_with fail
  refine (long_any s _ (hS.on hB) hf.h1 hf.h2 hf.h3 hf.h4).mono ?_
  rintro e W ⟨rfl, hb⟩
  clear c0 c1 c2 c3 c4 c5
  replace hk := hk.below hb hk.lt
  replace hB := hB.trans (hb.mono hB.size)
  clear hb
  have c0 := hk.cell_ 0 rfl
  have c1 := hk.cell_ 1 rfl
  have c2 := hk.cell_ 2 rfl
  have c3 := hk.cell_ 3 rfl
  have c4 := hk.cell_ 4 rfl
  have c5 := hk.cell_ 5 rfl
  cases hl : longB s.p
  case true =>
    go_wp2_with fail
    refine (first_any _).mono ?_
    rintro e W ⟨rfl, hb⟩
    clear c0 c1 c2 c3 c4 c5
    replace hk := hk.below hb hk.lt
    replace hB := hB.trans (hb.mono hB.size)
    clear hb
    have c0 := hk.cell_ 0 rfl
    have c1 := hk.cell_ 1 rfl
    have c2 := hk.cell_ 2 rfl
    have c3 := hk.cell_ 3 rfl
    have c4 := hk.cell_ 4 rfl
    have c5 := hk.cell_ 5 rfl
    go_wp2_with fail
    go_ret
    exact ⟨rfl, hB⟩
  go_wp2_with fail
  refine (wide_any A c pl _ (hP.on hB) hpf).mono ?_
  rintro e W ⟨rfl, hb⟩
  clear c0 c1 c2 c3 c4 c5
  replace hk := hk.below hb hk.lt
  replace hB := hB.trans (hb.mono hB.size)
  clear hb
  have c0 := hk.cell_ 0 rfl
  have c1 := hk.cell_ 1 rfl
  have c2 := hk.cell_ 2 rfl
  have c3 := hk.cell_ 3 rfl
  have c4 := hk.cell_ 4 rfl
  have c5 := hk.cell_ 5 rfl
  cases hw : wideB pl
  case true =>
    go_wp2_with fail
    refine (first_any _).mono ?_
    rintro e W ⟨rfl, hb⟩
    clear c0 c1 c2 c3 c4 c5
    replace hk := hk.below hb hk.lt
    replace hB := hB.trans (hb.mono hB.size)
    clear hb
    have c0 := hk.cell_ 0 rfl
    have c1 := hk.cell_ 1 rfl
    have c2 := hk.cell_ 2 rfl
    have c3 := hk.cell_ 3 rfl
    have c4 := hk.cell_ 4 rfl
    have c5 := hk.cell_ 5 rfl
    go_wp2_with fail
    go_ret
    exact ⟨rfl, hB⟩
  go_wp2_with fail
  refine (refValid_any s _ (hS.on hB) hf.h1 hf.h2 hf.h3 hf.h4).mono ?_
  rintro e W ⟨rfl, hb⟩
  clear c0 c1 c2 c3 c4 c5
  replace hk := hk.below hb hk.lt
  replace hB := hB.trans (hb.mono hB.size)
  clear hb
  have c0 := hk.cell_ 0 rfl
  have c1 := hk.cell_ 1 rfl
  have c2 := hk.cell_ 2 rfl
  have c3 := hk.cell_ 3 rfl
  have c4 := hk.cell_ 4 rfl
  have c5 := hk.cell_ 5 rfl
  cases hvB : validShop s.p
  case false =>
    go_wp2_with fail
    refine (first_any _).mono ?_
    rintro e W ⟨rfl, hb⟩
    clear c0 c1 c2 c3 c4 c5
    replace hk := hk.below hb hk.lt
    replace hB := hB.trans (hb.mono hB.size)
    clear hb
    have c0 := hk.cell_ 0 rfl
    have c1 := hk.cell_ 1 rfl
    have c2 := hk.cell_ 2 rfl
    have c3 := hk.cell_ 3 rfl
    have c4 := hk.cell_ 4 rfl
    have c5 := hk.cell_ 5 rfl
    go_wp2_with fail
    go_ret
    exact ⟨rfl, hB⟩
  have hv := valid_facts hvB
  have HV3 := hide (v3' s.p)
  have hm1 := hv.mach1
  have hm6 := hv.mach6
  go_wp2_with fail
  refine (refJudge_any s A c pl _ (hS.on hB) hv (hP.on hB) hpf).mono ?_
  rintro e W ⟨rfl, hb⟩
  clear c0 c1 c2 c3 c4 c5
  replace hk := hk.below hb hk.lt
  replace hB := hB.trans (hb.mono hB.size)
  clear hb
  have c0 := hk.cell_ 0 rfl
  have c1 := hk.cell_ 1 rfl
  have c2 := hk.cell_ 2 rfl
  have c3 := hk.cell_ 3 rfl
  have c4 := hk.cell_ 4 rfl
  have c5 := hk.cell_ 5 rfl
  rw [HV3.out]
  by_cases hz : (judgeF s.p pl).2.2 = 0
  · have hsh := shaped_facts (judge_shaped hz)
    have HSH := hide hsh
    have hlen12 : pl.length ≤ 12 := by have := hsh.len; have := hv.jobn; omega
    have HPJ := hide (pull_judge hv hz)
    have HPS := hide (pull_right hv hz).shape
    have HPF := hide (fits_of hv HPS.out)
    have HPV := hide (show pullV s.p pl = pullF s.p pl by unfold pullV; rw [if_pos hz])
    have HPV2 := hide (show pullV s.p (pullF s.p pl) = pullF s.p pl by unfold pullV; rw [if_pos HPJ.out]; exact pull_pull hv hz)
    have HAT := hide (fun (j k : Nat) (st : List Step) (x : Step) (h1 : s.p.jobs[j]? = some st) (h2 : st[k]? = some x) => pull_at hv hz h1 h2)
    have HOS := hide (fun m => order_same hv hz m)
    have HLQ : Hid ((pullF s.p pl).length = pl.length) := by show _ = _; rw [HPS.out.len, hsh.len]
    have HZ := hide hz
    rw [HZ.out]
    clear hz hsh
    go_wp2_with fail
    refine (pull_any s A c pl _ (hS.on hB) hvB (hP.on hB) hpf).mono ?_
    rintro e W9 ⟨A1, k1, rfl, hb, hP1⟩
    obtain ⟨W, rfl⟩ : ∃ W : World, W = W9 := ⟨_, rfl⟩
    clear c0 c1 c2 c3 c4 c5
    replace hk := hk.below hb hk.lt
    replace hB := hB.trans (hb.mono hB.size)
    clear hb
    have c0 := hk.cell_ 0 rfl
    have c1 := hk.cell_ 1 rfl
    have c2 := hk.cell_ 2 rfl
    have c3 := hk.cell_ 3 rfl
    have c4 := hk.cell_ 4 rfl
    have c5 := hk.cell_ 5 rfl
    rw [HPV.out, HZ.out]
    rw [HPV.out] at hP1
    generalize pullF s.p pl = Q at *
    go_wp2_with fail
    refine (pull_any s A1 k1 Q _ (hS.on hB) hvB hP1 HPF.out).mono ?_
    rintro e W9 ⟨A2, k2, rfl, hb, hP2⟩
    obtain ⟨W, rfl⟩ : ∃ W : World, W = W9 := ⟨_, rfl⟩
    clear c0 c1 c2 c3 c4 c5
    replace hk := hk.below hb hk.lt
    replace hP1 := hP1.on hb
    replace hB := hB.trans (hb.mono hB.size)
    clear hb
    have c0 := hk.cell_ 0 rfl
    have c1 := hk.cell_ 1 rfl
    have c2 := hk.cell_ 2 rfl
    have c3 := hk.cell_ 3 rfl
    have c4 := hk.cell_ 4 rfl
    have c5 := hk.cell_ 5 rfl
    rw [HPV2.out, HPJ.out]
    rw [HPV2.out] at hP2
    go_wp2_with fail
    refine (samePlan_any A1 A2 k1 k2 Q _ hP1 hP2 HPF.out).mono ?_
    rintro e W ⟨rfl, hb⟩
    clear c0 c1 c2 c3 c4 c5
    replace hk := hk.below hb hk.lt
    replace hP1 := hP1.on hb
    replace hP2 := hP2.on hb
    replace hB := hB.trans (hb.mono hB.size)
    clear hb
    have c0 := hk.cell_ 0 rfl
    have c1 := hk.cell_ 1 rfl
    have c2 := hk.cell_ 2 rfl
    have c3 := hk.cell_ 3 rfl
    have c4 := hk.cell_ 4 rfl
    have c5 := hk.cell_ 5 rfl
    rw [HLQ.out]
    clear hP2
    go_wp2_with fail
    clear c0 c1 c2 c3 c4 c5
    go_loopw [12] (fun x W => ∃ i : Nat, x = .int .i64 i ∧ i ≤ pl.length ∧ Blk W w.heap.size 25 #[.int .i64 s.p.op, .int .i64 s.p.cl, .slice s.aH s.p.hol.length s.cH, .int .i64 s.p.mach, .slice s.aS s.p.setup.length s.cS, .slice s.aJ s.p.jobs.length s.cJ] ∧ Plan W W.heap.size A1 Q ∧ Below w.heap.size w W) (fun x _ => pl.length - (intOf x).toNat)
    case atStart => exact ⟨0, rfl, Nat.zero_le _, hk, hP1, hB⟩
    case round =>
      clear hk hB hP1
      obtain ⟨W, rfl⟩ : ∃ W : World, W = wr := ⟨_, rfl⟩
      obtain ⟨i, rfl, hi, hk, hP1, hB⟩ := hrel
      have c0 := hk.cell_ 0 rfl
      have c1 := hk.cell_ 1 rfl
      have c2 := hk.cell_ 2 rfl
      have c3 := hk.cell_ 3 rfl
      have c4 := hk.cell_ 4 rfl
      have c5 := hk.cell_ 5 rfl
      by_cases hlt : i < pl.length
      · obtain ⟨l, hl⟩ : ∃ l, pl[i]? = some l := ⟨_, List.getElem?_eq_getElem hlt⟩
        obtain ⟨l1, hl1⟩ : ∃ l1, Q[i]? = some l1 := ⟨_, List.getElem?_eq_getElem (by rw [HLQ.out]; exact hlt)⟩
        have hst : s.p.jobs[i]? = some (s.p.jobs[i]'(by rw [← HSH.out.len]; exact hlt)) := List.getElem?_eq_getElem _
        obtain ⟨st, hst'⟩ : ∃ st, s.p.jobs[i]? = some st := ⟨_, hst⟩
        obtain ⟨g1, g2⟩ := HSH.out.at_ i l st hl hst'
        obtain ⟨g3, g4⟩ := HPS.out.at_ i l1 st hl1 hst'
        have hll : l1.length = l.length := by omega
        have hl8 : l.length ≤ 8 := by have := (hv.steps i st hst').1; omega
        have HLE := hide (fun (k : Nat) (a b : Int) (ha : l1[k]? = some a) (hb : l[k]? = some b) => show a ≤ b by
          have hk : k < st.length := by rw [← g1]; exact (List.getElem?_eq_some_iff.1 hb).1
          have h := HAT.out i k st _ hst' (List.getElem?_eq_getElem hk)
          rw [planAt_eq hl1 ha, planAt_eq hl hb] at h
          exact h)
        obtain ⟨bp, offp, Ap, cp, hAp, hbp, hcp, hSp⟩ := plan_at (hP.on hB) hl
        obtain ⟨bq, offq, Aq, cq, hAq, hbq, hcq, hSq⟩ := plan_at hP1 hl1
        rw [hll] at hcq
        have HLL := hide hll
        have HL := hide (And.intro hl hl1)
        clear hl hl1 hst hst' g1 g2 g3 g4 hll
        subst hAp hAq
        have hii : (i : Int) < (pl.length : Int) := by omega
        go_wp2_with fail
        refine wp_region_quiet (C := fun w' => ∃ u : Since W, w' = u.w) (by kernel_rfl) (by kernel_rfl) (Since.start W) ?_
        dsimp only
        have y_c0 := Since.cell c0
        have y_c1 := Since.cell c1
        have y_c2 := Since.cell c2
        have y_c3 := Since.cell c3
        have y_c4 := Since.cell c4
        have y_c5 := Since.cell c5
        have y_hcp := Since.cell hcp
        have y_hcq := Since.cell hcq
        clear c0 c1 c2 c3 c4 c5
        repeat (go_big_quiet_step ((fail)))
        refine wpQuiet_nil ?_
        rintro W ⟨⟨_, hb⟩, rfl⟩
        try dsimp only at hb ⊢
        replace hcp : W.cell? _ = _ := y_hcp ⟨W, hb⟩
        replace hcq : W.cell? _ = _ := y_hcq ⟨W, hb⟩
        clear y_c0 y_c1 y_c2 y_c3 y_c4 y_c5 y_hcp y_hcq
        replace hk := hk.below hb hk.lt
        replace hSp := (hSp.below hb).more hb.size
        replace hSq := (hSq.below hb).more hb.size
        replace hP1 := hP1.on hb
        replace hB := hB.trans (hb.mono hB.size)
        clear hb
        have c0 := hk.cell_ 0 rfl
        have c1 := hk.cell_ 1 rfl
        have c2 := hk.cell_ 2 rfl
        have c3 := hk.cell_ 3 rfl
        have c4 := hk.cell_ 4 rfl
        have c5 := hk.cell_ 5 rfl
        clear hcp hcq
        go_wp2_with fail
        clear c0 c1 c2 c3 c4 c5
        go_loopw [13] (fun y W => ∃ k : Nat, y = .int .i64 k ∧ k ≤ l.length ∧ Blk W w.heap.size 25 #[.int .i64 s.p.op, .int .i64 s.p.cl, .slice s.aH s.p.hol.length s.cH, .int .i64 s.p.mach, .slice s.aS s.p.setup.length s.cS, .slice s.aJ s.p.jobs.length s.cJ] ∧ Slc intEnc 1 W W.heap.size Ap l ∧ Slc intEnc 1 W W.heap.size Aq l1 ∧ Plan W W.heap.size (some ⟨bq, offq, none⟩) Q ∧ Below w.heap.size w W) (fun y _ => l.length - (intOf y).toNat)
        case atStart => exact ⟨0, rfl, Nat.zero_le _, hk, hSp, hSq, hP1, hB⟩
        case round =>
          clear hk hB hP1 hSp hSq
          obtain ⟨W, rfl⟩ : ∃ W : World, W = wr := ⟨_, rfl⟩
          obtain ⟨k, rfl, hk2, hk, hSp, hSq, hP1, hB⟩ := hrel
          obtain ⟨bp', offp', Ap', cp', hAp', hbp', hcp, hSp'⟩ := plan_at (hP.on hB) HL.out.1
          obtain ⟨bq', offq', Aq', cq', hAq', hbq', hcq, hSq'⟩ := plan_at hP1 HL.out.2
          obtain ⟨rfl, rfl⟩ : bp = bp' ∧ offp = offp' := by simpa using hAp'
          obtain ⟨rfl, rfl⟩ : bq = bq' ∧ offq = offq' := by simpa using hAq'
          rw [HLL.out] at hcq
          clear hAp' hAq'
          have c0 := hk.cell_ 0 rfl
          have c1 := hk.cell_ 1 rfl
          have c2 := hk.cell_ 2 rfl
          have c3 := hk.cell_ 3 rfl
          have c4 := hk.cell_ 4 rfl
          have c5 := hk.cell_ 5 rfl
          by_cases hlk : k < l.length
          · obtain ⟨a, ha⟩ : ∃ a, l1[k]? = some a := ⟨_, List.getElem?_eq_getElem (by rw [HLL.out]; exact hlk)⟩
            obtain ⟨b, hb⟩ : ∃ b, l[k]? = some b := ⟨_, List.getElem?_eq_getElem hlk⟩
            have hle := HLE.out k a b ha hb
            obtain ⟨bu, offu, hAu, hbu, hcu⟩ := int_at hSp' hb
            obtain ⟨bv, offv, hAv, hbv, hcv⟩ := int_at hSq' ha
            have hki : (k : Int) < (l.length : Int) := by omega
            clear ha hb hSp' hSq'
            subst hAu hAv
            go_wp2_with fail
            go_wp2_with fail
            refine wp_region_quiet (C := fun w' => ∃ u : Since W, w' = u.w) (by kernel_rfl) (by kernel_rfl) (Since.start W) ?_
            dsimp only
            have y_c0 := Since.cell c0
            have y_c1 := Since.cell c1
            have y_c2 := Since.cell c2
            have y_c3 := Since.cell c3
            have y_c4 := Since.cell c4
            have y_c5 := Since.cell c5
            have y_hcp := Since.cell hcp
            have y_hcq := Since.cell hcq
            have y_hcu := Since.cell hcu
            have y_hcv := Since.cell hcv
            clear c0 c1 c2 c3 c4 c5
            repeat (go_big_quiet_step ((fail)))
            refine wpQuiet_nil ?_
            rintro W ⟨⟨_, hb⟩, rfl⟩
            try dsimp only at hb ⊢
            replace hcp : W.cell? _ = _ := y_hcp ⟨W, hb⟩
            replace hcq : W.cell? _ = _ := y_hcq ⟨W, hb⟩
            replace hcu : W.cell? _ = _ := y_hcu ⟨W, hb⟩
            replace hcv : W.cell? _ = _ := y_hcv ⟨W, hb⟩
            clear y_c0 y_c1 y_c2 y_c3 y_c4 y_c5 y_hcp y_hcq y_hcu y_hcv
            replace hk := hk.below hb hk.lt
            replace hSp := (hSp.below hb).more hb.size
            replace hSq := (hSq.below hb).more hb.size
            replace hP1 := hP1.on hb
            replace hB := hB.trans (hb.mono hB.size)
            clear hb
            have c0 := hk.cell_ 0 rfl
            have c1 := hk.cell_ 1 rfl
            have c2 := hk.cell_ 2 rfl
            have c3 := hk.cell_ 3 rfl
            have c4 := hk.cell_ 4 rfl
            have c5 := hk.cell_ 5 rfl
            go_wp2_with fail
            go_roundw
            case rel => exact ⟨k + 1, by go_num, by omega, hk, hSp, hSq, hP1, hB⟩
            case measure => simp [intOf]; omega
          · obtain rfl : k = l.length := by omega
            go_wp2_with fail
            go_roundw
            case rel => exact ⟨i + 1, by go_num, by omega, hk, hP1, hB⟩
            case measure => simp [intOf]; omega
      · obtain rfl : i = pl.length := by omega
        go_wp2_with fail
        clear c0 c1 c2 c3 c4 c5
        go_loopw [14] (fun y W => ∃ m : Nat, y = .int .i64 m ∧ (m : Int) ≤ s.p.mach ∧ Blk W w.heap.size 25 #[.int .i64 s.p.op, .int .i64 s.p.cl, .slice s.aH s.p.hol.length s.cH, .int .i64 s.p.mach, .slice s.aS s.p.setup.length s.cS, .slice s.aJ s.p.jobs.length s.cJ] ∧ Plan W W.heap.size A1 Q ∧ Below w.heap.size w W) (fun y _ => s.p.mach.toNat - (intOf y).toNat)
        case atStart => exact ⟨0, rfl, (by omega), hk, hP1, hB⟩
        case round =>
          clear hk hB hP1
          obtain ⟨W, rfl⟩ : ∃ W : World, W = wr := ⟨_, rfl⟩
          obtain ⟨m, rfl, hm, hk, hP1, hB⟩ := hrel
          have c0 := hk.cell_ 0 rfl
          have c1 := hk.cell_ 1 rfl
          have c2 := hk.cell_ 2 rfl
          have c3 := hk.cell_ 3 rfl
          have c4 := hk.cell_ 4 rfl
          have c5 := hk.cell_ 5 rfl
          by_cases hlt2 : (m : Int) < s.p.mach
          · obtain ⟨q1, q2⟩ := ordL_yes (pl := pl) (m := (m : Int)) (by omega) hlt2 HZ.out
            obtain ⟨q3, q4⟩ := ordL_yes (pl := Q) (m := (m : Int)) (by omega) hlt2 HPJ.out
            have HQ1 := hide (And.intro (And.intro q1 q2) (And.intro q3 q4))
            clear q1 q2 q3 q4
            go_wp2_with fail
            refine (apiOrder_any s A c pl m _ (hS.on hB) hvB (hP.on hB) hpf).mono ?_
            rintro e W9 ⟨AO, cO, rfl, hb, hO⟩
            rw [HQ1.out.1.1, HQ1.out.1.2]
            rw [HQ1.out.1.1] at hO
            obtain ⟨W, rfl⟩ : ∃ W : World, W = W9 := ⟨_, rfl⟩
            clear c0 c1 c2 c3 c4 c5
            replace hk := hk.below hb hk.lt
            replace hP1 := hP1.on hb
            replace hB := hB.trans (hb.mono hB.size)
            clear hb
            have c0 := hk.cell_ 0 rfl
            have c1 := hk.cell_ 1 rfl
            have c2 := hk.cell_ 2 rfl
            have c3 := hk.cell_ 3 rfl
            have c4 := hk.cell_ 4 rfl
            have c5 := hk.cell_ 5 rfl
            go_wp2_with fail
            refine (apiOrder_n s A1 k1 pl.length Q m _ HLQ.out (hS.on hB) hvB hP1 HPF.out).mono ?_
            rintro e W9 ⟨AR, cR, rfl, hb, hR⟩
            rw [HQ1.out.2.1, HQ1.out.2.2]
            rw [HQ1.out.2.1] at hR
            obtain ⟨W, rfl⟩ : ∃ W : World, W = W9 := ⟨_, rfl⟩
            clear c0 c1 c2 c3 c4 c5
            replace hk := hk.below hb hk.lt
            replace hP1 := hP1.on hb
            replace hO := hO.on hb
            replace hB := hB.trans (hb.mono hB.size)
            clear hb
            have c0 := hk.cell_ 0 rfl
            have c1 := hk.cell_ 1 rfl
            have c2 := hk.cell_ 2 rfl
            have c3 := hk.cell_ 3 rfl
            have c4 := hk.cell_ 4 rfl
            have c5 := hk.cell_ 5 rfl
            have hR2 := slc_keys hR (HOS.out m)
            have hlen : (sortA (onM (ats s.p Q) (m : Int))).length = (sortA (onM (ats s.p pl) (m : Int))).length := by
              have := congrArg List.length (HOS.out m)
              simpa using this
            rw [hlen]
            have hl9 : (sortA (onM (ats s.p pl) (m : Int))).length ≤ 9223372036854775807 := by
              have h1 := (sortA_perm (onM (ats s.p pl) (m : Int))).length_eq
              have h2 : (onM (ats s.p pl) (m : Int)).length ≤ (ats s.p pl).length := List.length_filter_le _ _
              have h3 := ats_len s.p pl
              have h4 := ents_len hv
              omega
            clear hlen hR
            go_wp2_with fail
            refine (samePairs_any AO AR cO cR _ _ hl9 hO hR2).mono ?_
            rintro e W ⟨rfl, hb⟩
            clear c0 c1 c2 c3 c4 c5
            replace hk := hk.below hb hk.lt
            replace hP1 := hP1.on hb
            replace hO := hO.on hb
            replace hR2 := hR2.on hb
            replace hB := hB.trans (hb.mono hB.size)
            clear hb
            have c0 := hk.cell_ 0 rfl
            have c1 := hk.cell_ 1 rfl
            have c2 := hk.cell_ 2 rfl
            have c3 := hk.cell_ 3 rfl
            have c4 := hk.cell_ 4 rfl
            have c5 := hk.cell_ 5 rfl
            go_wp2_with fail
            go_roundw
            case rel => exact ⟨m + 1, by go_num, by omega, hk, hP1, hB⟩
            case measure => simp [intOf]; omega
          · go_wp2_with fail
            refine (first_any _).mono ?_
            rintro e W ⟨rfl, hb⟩
            clear c0 c1 c2 c3 c4 c5
            replace hk := hk.below hb hk.lt
            replace hP1 := hP1.on hb
            replace hB := hB.trans (hb.mono hB.size)
            clear hb
            have c0 := hk.cell_ 0 rfl
            have c1 := hk.cell_ 1 rfl
            have c2 := hk.cell_ 2 rfl
            have c3 := hk.cell_ 3 rfl
            have c4 := hk.cell_ 4 rfl
            have c5 := hk.cell_ 5 rfl
            go_wp2_with fail
            go_ret
            exact ⟨rfl, hB⟩
  · have hzb : ((judgeF s.p pl).2.2 != 0) = true := by simpa using hz
    have HZ := hide hz
    clear hz
    go_wp2_with fail
    refine (first_any _).mono ?_
    rintro e W ⟨rfl, hb⟩
    clear c0 c1 c2 c3 c4 c5
    replace hk := hk.below hb hk.lt
    replace hB := hB.trans (hb.mono hB.size)
    clear hb
    have c0 := hk.cell_ 0 rfl
    have c1 := hk.cell_ 1 rfl
    have c2 := hk.cell_ 2 rfl
    have c3 := hk.cell_ 3 rfl
    have c4 := hk.cell_ 4 rfl
    have c5 := hk.cell_ 5 rfl
    go_wp2_with fail
    go_ret
    exact ⟨rfl, hB⟩
end Go.Proofs.Ytcpnfcnobnjhdaa
