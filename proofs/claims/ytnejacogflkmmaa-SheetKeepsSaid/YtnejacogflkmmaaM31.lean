/- Parts of the proofs of this seat: Last, ExpiresLaw. Each part says what it proves; no condition beyond those stated there. -/
import Derived.Test.YtnejacogflkmmaaM24
import Derived.Test.YtnejacogflkmmaaM33

/- A script of one call: whether it is too large. -/
namespace Go.Proofs.Ytnejacogflkmmaa
open Go Go.RowKit
theorem last_slc (x : CallV) (W : World) : Slc CallV.enc 17 (W.alloc (.cells #[.int .i64 x.kind, .int .i64 x.id, .int .i64 x.gr, .int .i64 x.co, .int .i64 x.lo, .int .i64 x.ma, .int .i64 x.wi, .int .i64 x.le, .slice x.A x.n x.c, .int .i64 x.ng, .int .i64 x.nq, .int .i64 x.nw, .int .i64 x.nl, .int .i64 x.nk, .int .i64 x.day, .int .i64 x.cid, .int .i64 x.what] 64)) (W.alloc (.cells #[.int .i64 x.kind, .int .i64 x.id, .int .i64 x.gr, .int .i64 x.co, .int .i64 x.lo, .int .i64 x.ma, .int .i64 x.wi, .int .i64 x.le, .slice x.A x.n x.c, .int .i64 x.ng, .int .i64 x.nq, .int .i64 x.nw, .int .i64 x.nl, .int .i64 x.nk, .int .i64 x.day, .int .i64 x.cid, .int .i64 x.what] 64)).heap.size (some ⟨W.heap.size, 0, none⟩) [x] := (Blk.new W 64 #[.int .i64 x.kind, .int .i64 x.id, .int .i64 x.gr, .int .i64 x.co, .int .i64 x.lo, .int .i64 x.ma, .int .i64 x.wi, .int .i64 x.le, .slice x.A x.n x.c, .int .i64 x.ng, .int .i64 x.nq, .int .i64 x.nw, .int .i64 x.nl, .int .i64 x.nk, .int .i64 x.day, .int .i64 x.cid, .int .i64 x.what]).slc1 (y := x) rfl
theorem last_len (x : CallV) : [x].length ≤ maxLen := by unfold maxLen; show 1 ≤ _; omega
theorem last_big (x : CallV) : largeB [x] 1 = bigB x := by unfold largeB; simp
theorem large1_is (x : CallV) (b : Bool) (W : World) (h : bigB x = b) : Calls Try.prog 20 #[.slice (some ⟨W.heap.size, 0, none⟩) 1 1, .int .i64 1] (W.alloc (.cells #[.int .i64 x.kind, .int .i64 x.id, .int .i64 x.gr, .int .i64 x.co, .int .i64 x.lo, .int .i64 x.ma, .int .i64 x.wi, .int .i64 x.le, .slice x.A x.n x.c, .int .i64 x.ng, .int .i64 x.nq, .int .i64 x.nw, .int .i64 x.nl, .int .i64 x.nk, .int .i64 x.day, .int .i64 x.cid, .int .i64 x.what] 64)) fun e w' => e = .returned (.bool b) ∧ W.alloc (.cells #[.int .i64 x.kind, .int .i64 x.id, .int .i64 x.gr, .int .i64 x.co, .int .i64 x.lo, .int .i64 x.ma, .int .i64 x.wi, .int .i64 x.le, .slice x.A x.n x.c, .int .i64 x.ng, .int .i64 x.nq, .int .i64 x.nw, .int .i64 x.nl, .int .i64 x.nk, .int .i64 x.day, .int .i64 x.cid, .int .i64 x.what] 64) = w' := large_is (some ⟨W.heap.size, 0, none⟩) 1 [x] 1 _ (last_slc x W) (last_len x) ((last_big x).trans h)
end Go.Proofs.Ytnejacogflkmmaa

/- SheetExpires: the walk. -/
namespace Go.Proofs.Ytnejacogflkmmaa
open Go Go.RowKit
def cntF (r : Shelf) (d : Int) (ys : List Sheet) (i : Nat) : Nat := ((ys.take i).filter fun x => oldF r x d).length
theorem cnt_next {r : Shelf} {d : Int} {ys : List Sheet} {i : Nat} {y : Sheet} (h : ys[i]? = some y) : cntF r d ys (i + 1) = if oldF r y d then cntF r d ys i + 1 else cntF r d ys i := by
  unfold cntF
  rw [List.take_add_one, h, Option.toList_some, List.filter_append, List.length_append]
  by_cases ho : oldF r y d = true
  · rw [if_pos ho, List.filter_cons, if_pos ho]; rfl
  · rw [if_neg ho, List.filter_cons, if_neg ho]; rfl
set_option maxRecDepth 100000 in
set_option maxHeartbeats 8000000 in
theorem expires_walk (mw ml l0 l1 l2 : Int) (A : Option Addr) (c : Nat) (xs : List CallV) (x : CallV) (w : World) (hS : Slc CallV.enc 17 w w.heap.size A xs) (hlen : xs.length ≤ maxLen) (hin : ∀ (i : Nat) x, xs[i]? = some x → CallIn w x) :
    Calls Try.prog 10 #[.agg #[.int .i64 mw, .int .i64 ml, .int .i64 l0, .int .i64 l1, .int .i64 l2], .slice A xs.length c, .agg #[.int .i64 x.kind, .int .i64 x.id, .int .i64 x.gr, .int .i64 x.co, .int .i64 x.lo, .int .i64 x.ma, .int .i64 x.wi, .int .i64 x.le, .slice x.A x.n x.c, .int .i64 x.ng, .int .i64 x.nq, .int .i64 x.nw, .int .i64 x.nl, .int .i64 x.nk, .int .i64 x.day, .int .i64 x.cid, .int .i64 x.what]] w fun e w' => e = .returned (.bool true) ∧ Below w.heap.size w w' := by
  have HS := hide hS
  have HIN := hide hin
  have hk := (Blk.new w 27 #[.int .i64 mw, .int .i64 ml, .int .i64 l0, .int .i64 l1, .int .i64 l2]).alloc (.cells #[.int .i64 x.kind, .int .i64 x.id, .int .i64 x.gr, .int .i64 x.co, .int .i64 x.lo, .int .i64 x.ma, .int .i64 x.wi, .int .i64 x.le, .slice x.A x.n x.c, .int .i64 x.ng, .int .i64 x.nq, .int .i64 x.nw, .int .i64 x.nl, .int .i64 x.nk, .int .i64 x.day, .int .i64 x.cid, .int .i64 x.what] 64)
  have hl := Blk.new (w.alloc (.cells #[.int .i64 mw, .int .i64 ml, .int .i64 l0, .int .i64 l1, .int .i64 l2] 27)) 64 #[.int .i64 x.kind, .int .i64 x.id, .int .i64 x.gr, .int .i64 x.co, .int .i64 x.lo, .int .i64 x.ma, .int .i64 x.wi, .int .i64 x.le, .slice x.A x.n x.c, .int .i64 x.ng, .int .i64 x.nq, .int .i64 x.nw, .int .i64 x.nl, .int .i64 x.nk, .int .i64 x.day, .int .i64 x.cid, .int .i64 x.what]
  have hB := ((Below.refl w.heap.size w).alloc (Nat.le_refl _) (.cells #[.int .i64 mw, .int .i64 ml, .int .i64 l0, .int .i64 l1, .int .i64 l2] 27)).alloc (by simp) (.cells #[.int .i64 x.kind, .int .i64 x.id, .int .i64 x.gr, .int .i64 x.co, .int .i64 x.lo, .int .i64 x.ma, .int .i64 x.wi, .int .i64 x.le, .slice x.A x.n x.c, .int .i64 x.ng, .int .i64 x.nq, .int .i64 x.nw, .int .i64 x.nl, .int .i64 x.nk, .int .i64 x.day, .int .i64 x.cid, .int .i64 x.what] 64)
  rw [show (w.alloc (.cells #[.int .i64 mw, .int .i64 ml, .int .i64 l0, .int .i64 l1, .int .i64 l2] 27)).heap.size = w.heap.size + 1 by simp] at hl
  clear hS hin
  go_enter Try.func10, Try.ntmps10
  go_upto_region 1 with fail
  generalize (w.alloc (.cells #[.int .i64 mw, .int .i64 ml, .int .i64 l0, .int .i64 l1, .int .i64 l2] 27)).alloc (.cells #[.int .i64 x.kind, .int .i64 x.id, .int .i64 x.gr, .int .i64 x.co, .int .i64 x.lo, .int .i64 x.ma, .int .i64 x.wi, .int .i64 x.le, .slice x.A x.n x.c, .int .i64 x.ng, .int .i64 x.nq, .int .i64 x.nw, .int .i64 x.nl, .int .i64 x.nk, .int .i64 x.day, .int .i64 x.cid, .int .i64 x.what] 64) = W at *
  have HLG : Hid (∀ b W, Below w.heap.size w W → largeB xs 14 = b → Calls Try.prog 20 #[.slice A xs.length c, .int .i64 14] W fun e w' => e = .returned (.bool b) ∧ W = w') := fun b W hb h => large_is A c xs 14 W (Slc.on HS.out hb) hlen h
  have HLX : Hid (∀ (b : Bool) (W : World), bigB x = b → Calls Try.prog 20 #[.slice (some ⟨W.heap.size, 0, none⟩) 1 1, .int .i64 1] (W.alloc (.cells #[.int .i64 x.kind, .int .i64 x.id, .int .i64 x.gr, .int .i64 x.co, .int .i64 x.lo, .int .i64 x.ma, .int .i64 x.wi, .int .i64 x.le, .slice x.A x.n x.c, .int .i64 x.ng, .int .i64 x.nq, .int .i64 x.nw, .int .i64 x.nl, .int .i64 x.nk, .int .i64 x.day, .int .i64 x.cid, .int .i64 x.what] 64)) fun e w' => e = .returned (.bool b) ∧ W.alloc (.cells #[.int .i64 x.kind, .int .i64 x.id, .int .i64 x.gr, .int .i64 x.co, .int .i64 x.lo, .int .i64 x.ma, .int .i64 x.wi, .int .i64 x.le, .slice x.A x.n x.c, .int .i64 x.ng, .int .i64 x.nq, .int .i64 x.nw, .int .i64 x.nl, .int .i64 x.nk, .int .i64 x.day, .int .i64 x.cid, .int .i64 x.what] 64) = w') := fun b W h => large1_is x b W h
  have k0 := hk.cell_ 0 rfl
  have k1 := hk.cell_ 1 rfl
  have k2 := hk.cell_ 2 rfl
  have k3 := hk.cell_ 3 rfl
  have k4 := hk.cell_ 4 rfl
  have j0 := hl.cell_ 0 rfl
  have j1 := hl.cell_ 1 rfl
  have j2 := hl.cell_ 2 rfl
  have j3 := hl.cell_ 3 rfl
  have j4 := hl.cell_ 4 rfl
  have j5 := hl.cell_ 5 rfl
  have j6 := hl.cell_ 6 rfl
  have j7 := hl.cell_ 7 rfl
  have j8 := hl.cell_ 8 rfl
  have j9 := hl.cell_ 9 rfl
  have j10 := hl.cell_ 10 rfl
  have j11 := hl.cell_ 11 rfl
  have j12 := hl.cell_ 12 rfl
  have j13 := hl.cell_ 13 rfl
  have j14 := hl.cell_ 14 rfl
  have j15 := hl.cell_ 15 rfl
  have j16 := hl.cell_ 16 rfl
  cases hL : largeB xs 14 with
  | true =>
    have HL := hide hL
    clear hL
    go_wp2_with fail
    refine (HLG.out true W hB HL.out).mono ?_
    rintro e W' ⟨rfl, rfl⟩
    clear k0 k1 k2 k3 k4 j0 j1 j2 j3 j4 j5 j6 j7 j8 j9 j10 j11 j12 j13 j14 j15 j16
    clear hk hl
    go_wp2_with fail
    refine (awake_any _).mono ?_
    rintro e W9 ⟨rfl, hb9⟩
    have hB9 := hB.trans (hb9.mono hB.size)
    go_wp2_with fail
    go_ret
    exact ⟨rfl, hB9⟩
  | false =>
    have HL := hide hL
    clear hL
    cases hbx : bigB x with
    | true =>
      have HBX := hide hbx
      clear hbx
      go_wp2_with fail
      refine (HLG.out false W hB HL.out).mono ?_
      rintro e W' ⟨rfl, rfl⟩
      go_wp2_with fail
      refine (HLX.out true W HBX.out).mono ?_
      rintro e W' ⟨rfl, rfl⟩
      have hal := (Below.refl W.heap.size W).alloc (Nat.le_refl _) (.cells #[.int .i64 x.kind, .int .i64 x.id, .int .i64 x.gr, .int .i64 x.co, .int .i64 x.lo, .int .i64 x.ma, .int .i64 x.wi, .int .i64 x.le, .slice x.A x.n x.c, .int .i64 x.ng, .int .i64 x.nq, .int .i64 x.nw, .int .i64 x.nl, .int .i64 x.nk, .int .i64 x.day, .int .i64 x.cid, .int .i64 x.what] 64)
      replace hk := hk.below hal hk.lt
      replace hl := hl.below hal hl.lt
      replace hB := hB.trans (hal.mono hB.size)
      clear k0 k1 k2 k3 k4 j0 j1 j2 j3 j4 j5 j6 j7 j8 j9 j10 j11 j12 j13 j14 j15 j16
      clear hal
      generalize W.alloc (.cells #[.int .i64 x.kind, .int .i64 x.id, .int .i64 x.gr, .int .i64 x.co, .int .i64 x.lo, .int .i64 x.ma, .int .i64 x.wi, .int .i64 x.le, .slice x.A x.n x.c, .int .i64 x.ng, .int .i64 x.nq, .int .i64 x.nw, .int .i64 x.nl, .int .i64 x.nk, .int .i64 x.day, .int .i64 x.cid, .int .i64 x.what] 64) = W3 at *
      obtain ⟨W, rfl⟩ : ∃ X : World, X = W3 := ⟨_, rfl⟩
      have k0 := hk.cell_ 0 rfl
      have k1 := hk.cell_ 1 rfl
      have k2 := hk.cell_ 2 rfl
      have k3 := hk.cell_ 3 rfl
      have k4 := hk.cell_ 4 rfl
      have j0 := hl.cell_ 0 rfl
      have j1 := hl.cell_ 1 rfl
      have j2 := hl.cell_ 2 rfl
      have j3 := hl.cell_ 3 rfl
      have j4 := hl.cell_ 4 rfl
      have j5 := hl.cell_ 5 rfl
      have j6 := hl.cell_ 6 rfl
      have j7 := hl.cell_ 7 rfl
      have j8 := hl.cell_ 8 rfl
      have j9 := hl.cell_ 9 rfl
      have j10 := hl.cell_ 10 rfl
      have j11 := hl.cell_ 11 rfl
      have j12 := hl.cell_ 12 rfl
      have j13 := hl.cell_ 13 rfl
      have j14 := hl.cell_ 14 rfl
      have j15 := hl.cell_ 15 rfl
      have j16 := hl.cell_ 16 rfl
      clear k0 k1 k2 k3 k4 j0 j1 j2 j3 j4 j5 j6 j7 j8 j9 j10 j11 j12 j13 j14 j15 j16
      clear hk hl
      go_wp2_with fail
      refine (awake_any _).mono ?_
      rintro e W9 ⟨rfl, hb9⟩
      have hB9 := hB.trans (hb9.mono hB.size)
      go_wp2_with fail
      go_ret
      exact ⟨rfl, hB9⟩
    | false =>
      have HBX := hide hbx
      clear hbx
      go_wp2_with fail
      refine (HLG.out false W hB HL.out).mono ?_
      rintro e W' ⟨rfl, rfl⟩
      go_wp2_with fail
      refine (HLX.out false W HBX.out).mono ?_
      rintro e W' ⟨rfl, rfl⟩
      have hal := (Below.refl W.heap.size W).alloc (Nat.le_refl _) (.cells #[.int .i64 x.kind, .int .i64 x.id, .int .i64 x.gr, .int .i64 x.co, .int .i64 x.lo, .int .i64 x.ma, .int .i64 x.wi, .int .i64 x.le, .slice x.A x.n x.c, .int .i64 x.ng, .int .i64 x.nq, .int .i64 x.nw, .int .i64 x.nl, .int .i64 x.nk, .int .i64 x.day, .int .i64 x.cid, .int .i64 x.what] 64)
      replace hk := hk.below hal hk.lt
      replace hl := hl.below hal hl.lt
      replace hB := hB.trans (hal.mono hB.size)
      clear k0 k1 k2 k3 k4 j0 j1 j2 j3 j4 j5 j6 j7 j8 j9 j10 j11 j12 j13 j14 j15 j16
      clear hal
      generalize W.alloc (.cells #[.int .i64 x.kind, .int .i64 x.id, .int .i64 x.gr, .int .i64 x.co, .int .i64 x.lo, .int .i64 x.ma, .int .i64 x.wi, .int .i64 x.le, .slice x.A x.n x.c, .int .i64 x.ng, .int .i64 x.nq, .int .i64 x.nw, .int .i64 x.nl, .int .i64 x.nk, .int .i64 x.day, .int .i64 x.cid, .int .i64 x.what] 64) = W3 at *
      obtain ⟨W, rfl⟩ : ∃ X : World, X = W3 := ⟨_, rfl⟩
      have k0 := hk.cell_ 0 rfl
      have k1 := hk.cell_ 1 rfl
      have k2 := hk.cell_ 2 rfl
      have k3 := hk.cell_ 3 rfl
      have k4 := hk.cell_ 4 rfl
      have j0 := hl.cell_ 0 rfl
      have j1 := hl.cell_ 1 rfl
      have j2 := hl.cell_ 2 rfl
      have j3 := hl.cell_ 3 rfl
      have j4 := hl.cell_ 4 rfl
      have j5 := hl.cell_ 5 rfl
      have j6 := hl.cell_ 6 rfl
      have j7 := hl.cell_ 7 rfl
      have j8 := hl.cell_ 8 rfl
      have j9 := hl.cell_ 9 rfl
      have j10 := hl.cell_ 10 rfl
      have j11 := hl.cell_ 11 rfl
      have j12 := hl.cell_ 12 rfl
      have j13 := hl.cell_ 13 rfl
      have j14 := hl.cell_ 14 rfl
      have j15 := hl.cell_ 15 rfl
      have j16 := hl.cell_ 16 rfl
      cases hv : validRules ⟨mw, ml, l0, l1, l2⟩ with
      | false =>
        have HV := hide hv
        clear hv
        go_wp2_with fail
        refine (refValidRules_is mw ml l0 l1 l2 _ HV.out).mono ?_
        rintro e W4 ⟨rfl, hb4⟩
        replace hB := hB.trans (hb4.mono hB.size)
        clear k0 k1 k2 k3 k4 j0 j1 j2 j3 j4 j5 j6 j7 j8 j9 j10 j11 j12 j13 j14 j15 j16
        clear hk hl hb4
        go_wp2_with fail
        refine (awake_any _).mono ?_
        rintro e W9 ⟨rfl, hb9⟩
        have hB9 := hB.trans (hb9.mono hB.size)
        go_wp2_with fail
        go_ret
        exact ⟨rfl, hB9⟩
      | true =>
        have HV := hide hv
        clear hv
        by_cases hd0 : x.day < 0
        · go_wp2_with fail
          refine (refValidRules_is mw ml l0 l1 l2 _ HV.out).mono ?_
          rintro e W4 ⟨rfl, hb4⟩
          replace hl := hl.below hb4 hl.lt
          replace hB := hB.trans (hb4.mono hB.size)
          clear k0 k1 k2 k3 k4 j0 j1 j2 j3 j4 j5 j6 j7 j8 j9 j10 j11 j12 j13 j14 j15 j16
          clear hb4
          have j14 := hl.cell_ 14 (v := .int .i64 x.day) rfl
          go_wp2_with fail
          refine (awake_any _).mono ?_
          rintro e W9 ⟨rfl, hb9⟩
          have hB9 := hB.trans (hb9.mono hB.size)
          go_wp2_with fail
          go_ret
          exact ⟨rfl, hB9⟩
        by_cases hd1 : 100000 < x.day
        · go_wp2_with fail
          refine (refValidRules_is mw ml l0 l1 l2 _ HV.out).mono ?_
          rintro e W4 ⟨rfl, hb4⟩
          replace hl := hl.below hb4 hl.lt
          replace hB := hB.trans (hb4.mono hB.size)
          clear k0 k1 k2 k3 k4 j0 j1 j2 j3 j4 j5 j6 j7 j8 j9 j10 j11 j12 j13 j14 j15 j16
          clear hb4
          have j14 := hl.cell_ 14 (v := .int .i64 x.day) rfl
          go_wp2_with fail
          refine (awake_any _).mono ?_
          rintro e W9 ⟨rfl, hb9⟩
          have hB9 := hB.trans (hb9.mono hB.size)
          go_wp2_with fail
          go_ret
          exact ⟨rfl, hB9⟩
        go_wp2_with fail
        refine (refValidRules_is mw ml l0 l1 l2 _ HV.out).mono ?_
        rintro e W4 ⟨rfl, hb4⟩
        replace hk := hk.below hb4 hk.lt
        replace hl := hl.below hb4 hl.lt
        replace hB := hB.trans (hb4.mono hB.size)
        clear k0 k1 k2 k3 k4 j0 j1 j2 j3 j4 j5 j6 j7 j8 j9 j10 j11 j12 j13 j14 j15 j16
        clear hb4
        have k0 := hk.cell_ 0 rfl
        have k1 := hk.cell_ 1 rfl
        have k2 := hk.cell_ 2 rfl
        have k3 := hk.cell_ 3 rfl
        have k4 := hk.cell_ 4 rfl
        obtain ⟨hl14, hbig⟩ := not_large HL.out
        have hl100 : xs.length ≤ 100 := by omega
        have HXI : Hid (∀ x ∈ xs, CallIn w x ∧ x.n ≤ 40) := fun x hx => by
          obtain ⟨j, hj⟩ := List.getElem?_of_mem hx
          exact ⟨HIN.out j x hj, (hbig x hx).1⟩
        clear hl14 hbig
        have j14 := hl.cell_ 14 rfl
        go_wp2_with fail
        refine (filled_any w mw ml l0 l1 l2 A c xs W4 HV.out hB HS.out hl100 HXI.out).mono ?_
        rintro e W5 ⟨p, rfl, hX, hnew, hb5⟩
        obtain ⟨q1, q2, q3⟩ := fill_ok (w := w) (xs := xs) HV.out hl100
        obtain ⟨s, hs⟩ : ∃ s, fillF w ⟨mw, ml, l0, l1, l2⟩ xs = s := ⟨_, rfl⟩
        rw [hs] at hX q1 q2 q3
        have HI := hide q1
        have HR := hide q2
        have HRU := hide q3
        have HF := hide q2.few
        have HNEW : Hid (∀ k, p.has k → w.heap.size ≤ k) := fun k hk => Nat.le_trans hB.size (hnew k hk)
        have HNK : Hid (∀ k, p.has k → W4.heap.size ≤ k) := hnew
        replace hB := hB.trans (hb5.mono hB.size)
        replace hk := hk.below hb5 hk.lt
        replace hl := hl.below hb5 hl.lt
        clear k0 k1 k2 k3 k4 hb5 hnew hs q1 q2 q3
        obtain ⟨W, rfl⟩ : ∃ X : World, X = W5 := ⟨_, rfl⟩
        have HDD : Hid (0 ≤ x.day ∧ x.day ≤ 100000) := by show _ ∧ _; omega
        clear j14 hd0 hd1
        have HX := hide hX
        clear hX
        go_wp2_with fail
        refine (items_any p s W HX.out HI.out HF.out).mono ?_
        rintro e W6 ⟨A1, c1, hs, rfl, hP, hIn, hb6, hA1⟩
        have hltp : ∀ k, p.has k → k < W.heap.size := fun k hk => HX.out.lt hk
        have HA1 : Hid (∀ ad, A1 = some ad → ¬ p.has ad.block) := fun ad h hh => by have h1 := hA1 ad h; have := hltp _ hh; omega
        have hX := HX.out.below hb6
        replace hl := hl.below hb6 hl.lt
        replace hk := hk.below hb6 hk.lt
        replace hB := hB.trans (hb6.mono hB.size)
        have HIN6 := hide hIn
        clear HX hltp hA1 hIn hb6
        obtain ⟨ys, hys⟩ : ∃ ys, itemsL s = ys := ⟨_, rfl⟩
        have HYS := hide hys
        have hyl : ys.length ≤ 1000000 := by rw [← hys, items_len HI.out]; exact HF.out.it
        rw [hys] at HIN6 ⊢
        clear hys
        obtain ⟨W, rfl⟩ : ∃ X : World, X = W6 := ⟨_, rfl⟩
        have j14 := hl.cell_ 14 (v := .int .i64 x.day) rfl
        have j15 := hl.cell_ 15 (v := .int .i64 x.cid) rfl
        obtain ⟨r0, r1⟩ := u64_bd x.cid
        obtain ⟨r, hr⟩ : ∃ r, (IntKind.u64.wrap x.cid).tmod 400 = r := ⟨_, rfl⟩
        rw [hr] at r0 r1
        have e1 : IntKind.i64.wrap r = r := IntWalk.i64_in _ (by omega)
        have e2 : IntKind.i64.wrap (x.day + r) = x.day + r := IntWalk.i64_in _ (by have := HDD.out; omega)
        go_upto_region 8 with fail
        obtain ⟨D, hD⟩ : ∃ D, min 100000 (x.day + r) = D := ⟨_, rfl⟩
        rw [hD]
        have HDL : Hid (x.day ≤ D) := by show x.day ≤ D; have := HDD.out; omega
        clear j14 j15 hr r0 r1 e1 e2 hD
        have HR50 : Hid (Room s 50) := HR.out.less (by omega)
        have j9 := hl.cell_ 9 rfl
        have j10 := hl.cell_ 10 rfl
        have j11 := hl.cell_ 11 rfl
        have j12 := hl.cell_ 12 rfl
        have j13 := hl.cell_ 13 rfl
        go_wp2_with fail
        refine (lots_any p s (needOf x) D W hX HI.out HR50.out).mono ?_
        rintro e W4 ⟨AL, cL, rfl, hL, hb4, hAL⟩
        have hltp : ∀ k, p.has k → k < W.heap.size := fun k hk => hX.lt hk
        have HAL : Hid (∀ ad, AL = some ad → ¬ p.has ad.block) := fun ad h hh => by have h1 := hAL ad h; have := hltp _ hh; omega
        replace hX := hX.below hb4
        replace hl := hl.below hb4 hl.lt
        replace hk := hk.below hb4 hk.lt
        replace hP := Slc.on hP hb4
        replace hB := hB.trans (hb4.mono hB.size)
        clear j9 j10 j11 j12 j13 hb4 hAL hltp
        obtain ⟨L, hLL⟩ : ∃ L, lotsL s (needOf x) D = L := ⟨_, rfl⟩
        obtain ⟨E, hEE⟩ : ∃ E, lotsE (needOf x) D = E := ⟨_, rfl⟩
        rw [hLL] at hL ⊢
        rw [hEE]
        have HLL := hide hLL
        have HEE := hide hEE
        have hLl : L.length ≤ 1000000 := by
          rw [← hLL]
          unfold lotsL
          split
          · refine Nat.le_trans (List.length_filter_le _ _) ?_
            unfold ordF; rw [sortK_len]; exact Nat.le_trans (lots_len s _) HF.out.lo
          · simp
        clear hLL hEE
        obtain ⟨W, rfl⟩ : ∃ X : World, X = W4 := ⟨_, rfl⟩
        have j14 := hl.cell_ 14 (v := .int .i64 x.day) rfl
        have HX := hide hX
        clear hX
        go_wp2_with fail
        refine (expire_any p s x.day W HX.out HI.out HF.out (inB_iff.2 HDD.out)).mono ?_
        rintro e W5 ⟨AG, cG, rfl, hG, hAG, hX, hC⟩
        have hltp : ∀ k, p.has k → k < W.heap.size := fun k hk => HX.out.lt hk
        replace hl := hl.chgS HX.out hC (by decide)
        replace hk := hk.chgS HX.out hC (by decide)
        replace hP := (hP.chgA hC (Nat.le_refl _) HA1.out).more hC.size
        replace hL := (hL.chgA hC (Nat.le_refl _) HAL.out).more hC.size
        replace hB := hB.trans (hC.to_below hB.size fun k hk hp => by have := HNEW.out k hp; omega)
        clear HX hltp hAG hC j14
        obtain ⟨G, hGG⟩ : ∃ G, expL s x.day = G := ⟨_, rfl⟩
        rw [hGG] at hG ⊢
        have HGG := hide hGG
        obtain ⟨t1, t2, t3, t4, t5⟩ := exp_all HI.out x.day
        have hlen2 := exp_len HI.out x.day
        have hTL := lots_exp HI.out (n := needOf x) HDL.out
        rw [hGG] at hlen2
        rw [HLL.out] at hTL
        have hTR : Room (expS s x.day) 50 := More.room (k := 1) (HR.out.less (by omega)) (more_scrapI _ _ s) (by omega) (by omega) (by omega) (by omega)
        obtain ⟨t, ht⟩ : ∃ t, expS s x.day = t := ⟨_, rfl⟩
        rw [ht] at hX t1 hlen2 hTL hTR
        have HTI := hide t1
        have HTR := hide hTR
        have HTL := hide hTL
        have HLN := hide hlen2
        clear hGG t1 t2 t3 t4 t5 hTL hTR ht hlen2
        obtain ⟨W, rfl⟩ : ∃ X : World, X = W5 := ⟨_, rfl⟩
        have j9 := hl.cell_ 9 rfl
        have j10 := hl.cell_ 10 rfl
        have j11 := hl.cell_ 11 rfl
        have j12 := hl.cell_ 12 rfl
        have j13 := hl.cell_ 13 rfl
        go_wp2_with fail
        refine (lots_any p t (needOf x) D W hX HTI.out HTR.out).mono ?_
        rintro e W4 ⟨AM, cM, rfl, hM, hb4, _⟩
        rw [HTL.out] at hM ⊢
        rw [HEE.out]
        replace hX := hX.below hb4
        replace hl := hl.below hb4 hl.lt
        replace hk := hk.below hb4 hk.lt
        replace hP := Slc.on hP hb4
        replace hL := Slc.on hL hb4
        replace hG := Slc.on hG hb4
        replace hB := hB.trans (hb4.mono hB.size)
        clear j9 j10 j11 j12 j13 hb4
        have HEQ : Hid (eqL L L = true) := by show eqL L L = true; unfold eqL; simp
        go_wp2_with fail
        refine (sameInts_any AL cL L AM cM L W4 hL hM hLl).mono ?_
        rintro e W6 ⟨rfl, hb6⟩
        rw [HEQ.out]
        replace hX := hX.below hb6
        replace hl := hl.below hb6 hl.lt
        replace hk := hk.below hb6 hk.lt
        replace hP := Slc.on hP hb6
        replace hG := Slc.on hG hb6
        replace hB := hB.trans (hb6.mono hB.size)
        clear hL hM hb6
        go_wp2_with fail
        refine (items_any p t W6 hX HTI.out HTR.out.few).mono ?_
        rintro e W7 ⟨AZ, cZ, hz, rfl, _, _, hb7, _⟩
        replace hl := hl.below hb7 hl.lt
        replace hk := hk.below hb7 hk.lt
        replace hP := Slc.on hP hb7
        replace hG := Slc.on hG hb7
        replace hB := hB.trans (hb7.mono hB.size)
        clear hX hb7
        have hgl : G.length ≤ 1000000 := by have h := HLN.out; rw [HYS.out] at h; omega
        have e3 : IntKind.i64.wrap ((G.length : Int) + ((itemsL t).length : Int)) = (ys.length : Int) := by
          have h := HLN.out
          rw [HYS.out] at h
          rw [IntWalk.i64_in _ (by omega)]; omega
        go_upto_region 15 with fail
        clear e3
        have HP := hide hP
        have HG := hide hG
        have HK := hide hk
        have HLB := hide hl
        have HB7 := hide hB
        clear hP hG hk hl hB
        have hw7 : W7.heap.size ≤ W7.heap.size := Nat.le_refl _
        go_loopw [16, 17] (fun z v wr => ∃ (i kc : Nat), z = .int .i64 kc ∧ v = .int .i64 i ∧ i ≤ ys.length ∧ Hid (cntF s.rules x.day ys i = kc) ∧ kc ≤ i ∧ Below W7.heap.size W7 wr) (fun _ v _ => ys.length - (intOf v).toNat)
        case atStart => exact ⟨0, 0, rfl, rfl, Nat.zero_le _, (rfl : Hid _), Nat.le_refl _, Below.refl _ _⟩
        case round =>
          obtain ⟨W, rfl⟩ : ∃ X : World, X = wr := ⟨_, rfl⟩
          obtain ⟨i, kc, rfl, rfl, hi, HKC, hkci, hb⟩ := hrel
          have hbs := hb.size
          by_cases hlt : i < ys.length
          · obtain ⟨y, hy⟩ : ∃ y, ys[i]? = some y := ⟨_, List.getElem?_eq_getElem hlt⟩
            obtain ⟨A9, c9, hh, _⟩ := HIN6.out.at_ hy
            obtain ⟨bS, oS, hAS, hbS, d0, d1, d2, d3, d4, d5, d6, d7, d8⟩ := sh_at (HP.out.below hb) hh
            have hyo := (HI.out.it _ _ (((items_shows HI.out).m y).1 (by rw [HYS.out]; exact List.mem_of_getElem? hy))).2
            have hgr := hyo.g
            have hma := hyo.m
            have hii : (i : Int) < (ys.length : Int) := by omega
            have ei : IntKind.i64.wrap ((i : Int) + 1) = ((i + 1 : Nat) : Int) := by rw [IntWalk.i64_in _ (by omega)]; push_cast; rfl
            have ek : IntKind.i64.wrap ((kc : Int) + 1) = ((kc + 1 : Nat) : Int) := by rw [IntWalk.i64_in _ (by omega)]; push_cast; rfl
            have HCN := hide (cnt_next (r := s.rules) (d := x.day) hy)
            have HGA : Hid (oldF s.rules y x.day = true → G[kc]? = some y.id) := fun ho => by
              have := gone_at (s := s) (d := x.day) (i := i) (x := y) (by rw [HYS.out]; exact hy) ho
              rw [HYS.out] at this
              rw [← HGG.out, ← HKC.out]; exact this
            clear hh hyo hy
            subst hAS
            obtain ⟨id, root, gr, co, lo, ma, wi, le, fs⟩ := y
            dsimp only at d0 d1 d2 d3 d4 d5 d6 d7 d8 hgr hma HGA
            have HMA := hide hma
            clear hma
            have e1 : IntKind.i64.wrap (x.day - ma) = x.day - ma := IntWalk.i64_in _ (by have := HMA.out; have := HDD.out; omega)
            rcases (show gr = 1 ∨ gr = 2 ∨ gr = 3 by omega) with rfl | rfl | rfl
            · have HV : Hid (oldF s.rules ⟨id, root, 1, co, lo, ma, wi, le, fs⟩ x.day = decide (l0 < x.day - ma)) := by show _ = _; rw [HRU.out]; unfold oldF lifeF; simp
              rw [HV.out] at HCN HGA
              have hyb := Blk.new W 54 #[.int .i64 id, .int .i64 root, .int .i64 1, .int .i64 co, .int .i64 lo, .int .i64 ma, .int .i64 wi, .int .i64 le, .slice A9 fs.length c9]
              have hal := (Below.refl W.heap.size W).alloc (Nat.le_refl _) (.cells #[.int .i64 id, .int .i64 root, .int .i64 1, .int .i64 co, .int .i64 lo, .int .i64 ma, .int .i64 wi, .int .i64 le, .slice A9 fs.length c9] 54)
              go_upto_region 18 with fail
              clear d0 d1 d2 d3 d4 d5 d6 d7 d8
              replace hb := hb.trans (hal.mono hbs)
              clear hal
              generalize W.alloc (.cells #[.int .i64 id, .int .i64 root, .int .i64 1, .int .i64 co, .int .i64 lo, .int .i64 ma, .int .i64 wi, .int .i64 le, .slice A9 fs.length c9] 54) = W3 at *
              generalize W.heap.size = by_ at *
              obtain ⟨W, rfl⟩ : ∃ X : World, X = W3 := ⟨_, rfl⟩
              have q2 := hyb.cell_ 2 (v := .int .i64 1) rfl
              have hk := HK.out.below hb HK.out.lt
              have hl := HLB.out.below hb HLB.out.lt
              have hWW := hb
              clear hb
              by_cases hold : l0 < x.day - ma
              · have g1 : decide (l0 < x.day - ma) = true := decide_eq_true hold
                rw [g1, if_pos rfl, HKC.out] at HCN
                have hgk := HGA.out g1
                have hkl : kc < G.length := (List.getElem?_eq_some_iff.1 hgk).1
                obtain ⟨n9, bG, oG, hn9, hAG, hbG, gk⟩ := ints_at' (HG.out.below hWW) hkl
                obtain rfl : id = n9 := by rw [hgk] at hn9; injection hn9
                have hkk : (kc : Int) < (G.length : Int) := by omega
                have g2 : decide ((G.length : Int) ≤ (kc : Int)) = false := decide_eq_false (by omega)
                have g3 : decide (G.length ≤ kc) = false := decide_eq_false (by omega)
                clear hold hgk hn9
                subst hAG
                go_upto_region 20 with fail
                clear q2
                have j14 := hl.cell_ 14 (v := .int .i64 x.day) rfl
                go_wp2_with fail
                have q0 := hyb.cell_ 0 rfl
                have q1 := hyb.cell_ 1 rfl
                have q2 := hyb.cell_ 2 rfl
                have q3 := hyb.cell_ 3 rfl
                have q4 := hyb.cell_ 4 rfl
                have q5 := hyb.cell_ 5 rfl
                have q6 := hyb.cell_ 6 rfl
                have q7 := hyb.cell_ 7 rfl
                have q8 := hyb.cell_ 8 rfl
                have k0 := hk.cell_ 0 rfl
                have k1 := hk.cell_ 1 rfl
                have k2 := hk.cell_ 2 rfl
                have k3 := hk.cell_ 3 rfl
                have k4 := hk.cell_ 4 rfl
                refine wp_region_quiet (C := fun w' => ∃ u : Since W, w' = u.w) (by kernel_rfl) (by kernel_rfl) (Since.start W) ?_
                dsimp only
                have y_q0 := Since.cell q0
                have y_q1 := Since.cell q1
                have y_q2 := Since.cell q2
                have y_q3 := Since.cell q3
                have y_q4 := Since.cell q4
                have y_q5 := Since.cell q5
                have y_q6 := Since.cell q6
                have y_q7 := Since.cell q7
                have y_q8 := Since.cell q8
                have y_k0 := Since.cell k0
                have y_k1 := Since.cell k1
                have y_k2 := Since.cell k2
                have y_k3 := Since.cell k3
                have y_k4 := Since.cell k4
                have y_j14 := Since.cell j14
                have y_gk := Since.cell gk
                clear q0 q1 q2 q3 q4 q5 q6 q7 q8 k0 k1 k2 k3 k4
                repeat (go_big_quiet_step ((fail)))
                refine wpQuiet_nil ?_
                rintro W ⟨⟨_, hb⟩, rfl⟩
                try dsimp only at hb ⊢
                replace j14 : W.cell? _ = _ := y_j14 ⟨W, hb⟩
                replace gk : W.cell? _ = _ := y_gk ⟨W, hb⟩
                clear y_q0 y_q1 y_q2 y_q3 y_q4 y_q5 y_q6 y_q7 y_q8 y_k0 y_k1 y_k2 y_k3 y_k4 y_j14 y_gk
                replace hyb := hyb.below hb hyb.lt
                replace hk := hk.below hb hk.lt
                replace hWW := Below.trans hWW (Below.mono hb (Below.size hWW))
                clear hb
                have q0 := hyb.cell_ 0 rfl
                have q1 := hyb.cell_ 1 rfl
                have q2 := hyb.cell_ 2 rfl
                have q3 := hyb.cell_ 3 rfl
                have q4 := hyb.cell_ 4 rfl
                have q5 := hyb.cell_ 5 rfl
                have q6 := hyb.cell_ 6 rfl
                have q7 := hyb.cell_ 7 rfl
                have q8 := hyb.cell_ 8 rfl
                have k0 := hk.cell_ 0 rfl
                have k1 := hk.cell_ 1 rfl
                have k2 := hk.cell_ 2 rfl
                have k3 := hk.cell_ 3 rfl
                have k4 := hk.cell_ 4 rfl
                go_wp2_with fail
                refine wp_region_quiet (C := fun w' => ∃ u : Since W, w' = u.w) (by kernel_rfl) (by kernel_rfl) (Since.start W) ?_
                dsimp only
                have y_q0 := Since.cell q0
                have y_q1 := Since.cell q1
                have y_q2 := Since.cell q2
                have y_q3 := Since.cell q3
                have y_q4 := Since.cell q4
                have y_q5 := Since.cell q5
                have y_q6 := Since.cell q6
                have y_q7 := Since.cell q7
                have y_q8 := Since.cell q8
                have y_k0 := Since.cell k0
                have y_k1 := Since.cell k1
                have y_k2 := Since.cell k2
                have y_k3 := Since.cell k3
                have y_k4 := Since.cell k4
                have y_gk := Since.cell gk
                clear q0 q1 q2 q3 q4 q5 q6 q7 q8 k0 k1 k2 k3 k4
                repeat (go_big_quiet_step ((fail)))
                refine wpQuiet_nil ?_
                rintro W ⟨⟨_, hb⟩, rfl⟩
                try dsimp only at hb ⊢
                replace gk : W.cell? _ = _ := y_gk ⟨W, hb⟩
                clear y_q0 y_q1 y_q2 y_q3 y_q4 y_q5 y_q6 y_q7 y_q8 y_k0 y_k1 y_k2 y_k3 y_k4 y_gk
                replace hyb := hyb.below hb hyb.lt
                replace hk := hk.below hb hk.lt
                replace hWW := Below.trans hWW (Below.mono hb (Below.size hWW))
                clear hb
                have q0 := hyb.cell_ 0 rfl
                have q1 := hyb.cell_ 1 rfl
                have q2 := hyb.cell_ 2 rfl
                have q3 := hyb.cell_ 3 rfl
                have q4 := hyb.cell_ 4 rfl
                have q5 := hyb.cell_ 5 rfl
                have q6 := hyb.cell_ 6 rfl
                have q7 := hyb.cell_ 7 rfl
                have q8 := hyb.cell_ 8 rfl
                have k0 := hk.cell_ 0 rfl
                have k1 := hk.cell_ 1 rfl
                have k2 := hk.cell_ 2 rfl
                have k3 := hk.cell_ 3 rfl
                have k4 := hk.cell_ 4 rfl
                clear q0 q1 q2 q3 q4 q5 q6 q7 q8 k0 k1 k2 k3 k4
                clear g1 g2 g3 j14 gk
                go_wp2_with fail
                go_roundw
                case rel => exact ⟨i + 1, kc + 1, by go_num, by go_num, by omega, (HCN.out : Hid _), by omega, hWW⟩
                case measure => simp [intOf]; omega
              · have g1 : decide (l0 < x.day - ma) = false := decide_eq_false hold
                rw [g1, if_neg (by simp), HKC.out] at HCN
                clear hold
                go_upto_region 20 with fail
                clear q2
                have j14 := hl.cell_ 14 (v := .int .i64 x.day) rfl
                clear hl
                go_wp2_with fail
                have q0 := hyb.cell_ 0 rfl
                have q1 := hyb.cell_ 1 rfl
                have q2 := hyb.cell_ 2 rfl
                have q3 := hyb.cell_ 3 rfl
                have q4 := hyb.cell_ 4 rfl
                have q5 := hyb.cell_ 5 rfl
                have q6 := hyb.cell_ 6 rfl
                have q7 := hyb.cell_ 7 rfl
                have q8 := hyb.cell_ 8 rfl
                have k0 := hk.cell_ 0 rfl
                have k1 := hk.cell_ 1 rfl
                have k2 := hk.cell_ 2 rfl
                have k3 := hk.cell_ 3 rfl
                have k4 := hk.cell_ 4 rfl
                refine wp_region_quiet (C := fun w' => ∃ u : Since W, w' = u.w) (by kernel_rfl) (by kernel_rfl) (Since.start W) ?_
                dsimp only
                have y_q0 := Since.cell q0
                have y_q1 := Since.cell q1
                have y_q2 := Since.cell q2
                have y_q3 := Since.cell q3
                have y_q4 := Since.cell q4
                have y_q5 := Since.cell q5
                have y_q6 := Since.cell q6
                have y_q7 := Since.cell q7
                have y_q8 := Since.cell q8
                have y_k0 := Since.cell k0
                have y_k1 := Since.cell k1
                have y_k2 := Since.cell k2
                have y_k3 := Since.cell k3
                have y_k4 := Since.cell k4
                have y_j14 := Since.cell j14
                clear q0 q1 q2 q3 q4 q5 q6 q7 q8 k0 k1 k2 k3 k4
                repeat (go_big_quiet_step ((fail)))
                refine wpQuiet_nil ?_
                rintro W ⟨⟨_, hb⟩, rfl⟩
                try dsimp only at hb ⊢
                replace j14 : W.cell? _ = _ := y_j14 ⟨W, hb⟩
                clear y_q0 y_q1 y_q2 y_q3 y_q4 y_q5 y_q6 y_q7 y_q8 y_k0 y_k1 y_k2 y_k3 y_k4 y_j14
                replace hyb := hyb.below hb hyb.lt
                replace hk := hk.below hb hk.lt
                replace hWW := Below.trans hWW (Below.mono hb (Below.size hWW))
                clear hb
                have q0 := hyb.cell_ 0 rfl
                have q1 := hyb.cell_ 1 rfl
                have q2 := hyb.cell_ 2 rfl
                have q3 := hyb.cell_ 3 rfl
                have q4 := hyb.cell_ 4 rfl
                have q5 := hyb.cell_ 5 rfl
                have q6 := hyb.cell_ 6 rfl
                have q7 := hyb.cell_ 7 rfl
                have q8 := hyb.cell_ 8 rfl
                have k0 := hk.cell_ 0 rfl
                have k1 := hk.cell_ 1 rfl
                have k2 := hk.cell_ 2 rfl
                have k3 := hk.cell_ 3 rfl
                have k4 := hk.cell_ 4 rfl
                clear q0 q1 q2 q3 q4 q5 q6 q7 q8 k0 k1 k2 k3 k4
                clear g1 j14
                go_wp2_with fail
                go_roundw
                case rel => exact ⟨i + 1, kc, by go_num, by go_num, by omega, (HCN.out : Hid _), by omega, hWW⟩
                case measure => simp [intOf]; omega
            · have HV : Hid (oldF s.rules ⟨id, root, 2, co, lo, ma, wi, le, fs⟩ x.day = decide (l1 < x.day - ma)) := by show _ = _; rw [HRU.out]; unfold oldF lifeF; simp
              rw [HV.out] at HCN HGA
              have hyb := Blk.new W 54 #[.int .i64 id, .int .i64 root, .int .i64 2, .int .i64 co, .int .i64 lo, .int .i64 ma, .int .i64 wi, .int .i64 le, .slice A9 fs.length c9]
              have hal := (Below.refl W.heap.size W).alloc (Nat.le_refl _) (.cells #[.int .i64 id, .int .i64 root, .int .i64 2, .int .i64 co, .int .i64 lo, .int .i64 ma, .int .i64 wi, .int .i64 le, .slice A9 fs.length c9] 54)
              go_upto_region 18 with fail
              clear d0 d1 d2 d3 d4 d5 d6 d7 d8
              replace hb := hb.trans (hal.mono hbs)
              clear hal
              generalize W.alloc (.cells #[.int .i64 id, .int .i64 root, .int .i64 2, .int .i64 co, .int .i64 lo, .int .i64 ma, .int .i64 wi, .int .i64 le, .slice A9 fs.length c9] 54) = W3 at *
              generalize W.heap.size = by_ at *
              obtain ⟨W, rfl⟩ : ∃ X : World, X = W3 := ⟨_, rfl⟩
              have q2 := hyb.cell_ 2 (v := .int .i64 2) rfl
              have hk := HK.out.below hb HK.out.lt
              have hl := HLB.out.below hb HLB.out.lt
              have hWW := hb
              clear hb
              by_cases hold : l1 < x.day - ma
              · have g1 : decide (l1 < x.day - ma) = true := decide_eq_true hold
                rw [g1, if_pos rfl, HKC.out] at HCN
                have hgk := HGA.out g1
                have hkl : kc < G.length := (List.getElem?_eq_some_iff.1 hgk).1
                obtain ⟨n9, bG, oG, hn9, hAG, hbG, gk⟩ := ints_at' (HG.out.below hWW) hkl
                obtain rfl : id = n9 := by rw [hgk] at hn9; injection hn9
                have hkk : (kc : Int) < (G.length : Int) := by omega
                have g2 : decide ((G.length : Int) ≤ (kc : Int)) = false := decide_eq_false (by omega)
                have g3 : decide (G.length ≤ kc) = false := decide_eq_false (by omega)
                clear hold hgk hn9
                subst hAG
                go_upto_region 20 with fail
                clear q2
                have j14 := hl.cell_ 14 (v := .int .i64 x.day) rfl
                go_wp2_with fail
                have q0 := hyb.cell_ 0 rfl
                have q1 := hyb.cell_ 1 rfl
                have q2 := hyb.cell_ 2 rfl
                have q3 := hyb.cell_ 3 rfl
                have q4 := hyb.cell_ 4 rfl
                have q5 := hyb.cell_ 5 rfl
                have q6 := hyb.cell_ 6 rfl
                have q7 := hyb.cell_ 7 rfl
                have q8 := hyb.cell_ 8 rfl
                have k0 := hk.cell_ 0 rfl
                have k1 := hk.cell_ 1 rfl
                have k2 := hk.cell_ 2 rfl
                have k3 := hk.cell_ 3 rfl
                have k4 := hk.cell_ 4 rfl
                refine wp_region_quiet (C := fun w' => ∃ u : Since W, w' = u.w) (by kernel_rfl) (by kernel_rfl) (Since.start W) ?_
                dsimp only
                have y_q0 := Since.cell q0
                have y_q1 := Since.cell q1
                have y_q2 := Since.cell q2
                have y_q3 := Since.cell q3
                have y_q4 := Since.cell q4
                have y_q5 := Since.cell q5
                have y_q6 := Since.cell q6
                have y_q7 := Since.cell q7
                have y_q8 := Since.cell q8
                have y_k0 := Since.cell k0
                have y_k1 := Since.cell k1
                have y_k2 := Since.cell k2
                have y_k3 := Since.cell k3
                have y_k4 := Since.cell k4
                have y_j14 := Since.cell j14
                have y_gk := Since.cell gk
                clear q0 q1 q2 q3 q4 q5 q6 q7 q8 k0 k1 k2 k3 k4
                repeat (go_big_quiet_step ((fail)))
                refine wpQuiet_nil ?_
                rintro W ⟨⟨_, hb⟩, rfl⟩
                try dsimp only at hb ⊢
                replace j14 : W.cell? _ = _ := y_j14 ⟨W, hb⟩
                replace gk : W.cell? _ = _ := y_gk ⟨W, hb⟩
                clear y_q0 y_q1 y_q2 y_q3 y_q4 y_q5 y_q6 y_q7 y_q8 y_k0 y_k1 y_k2 y_k3 y_k4 y_j14 y_gk
                replace hyb := hyb.below hb hyb.lt
                replace hk := hk.below hb hk.lt
                replace hWW := Below.trans hWW (Below.mono hb (Below.size hWW))
                clear hb
                have q0 := hyb.cell_ 0 rfl
                have q1 := hyb.cell_ 1 rfl
                have q2 := hyb.cell_ 2 rfl
                have q3 := hyb.cell_ 3 rfl
                have q4 := hyb.cell_ 4 rfl
                have q5 := hyb.cell_ 5 rfl
                have q6 := hyb.cell_ 6 rfl
                have q7 := hyb.cell_ 7 rfl
                have q8 := hyb.cell_ 8 rfl
                have k0 := hk.cell_ 0 rfl
                have k1 := hk.cell_ 1 rfl
                have k2 := hk.cell_ 2 rfl
                have k3 := hk.cell_ 3 rfl
                have k4 := hk.cell_ 4 rfl
                go_wp2_with fail
                refine wp_region_quiet (C := fun w' => ∃ u : Since W, w' = u.w) (by kernel_rfl) (by kernel_rfl) (Since.start W) ?_
                dsimp only
                have y_q0 := Since.cell q0
                have y_q1 := Since.cell q1
                have y_q2 := Since.cell q2
                have y_q3 := Since.cell q3
                have y_q4 := Since.cell q4
                have y_q5 := Since.cell q5
                have y_q6 := Since.cell q6
                have y_q7 := Since.cell q7
                have y_q8 := Since.cell q8
                have y_k0 := Since.cell k0
                have y_k1 := Since.cell k1
                have y_k2 := Since.cell k2
                have y_k3 := Since.cell k3
                have y_k4 := Since.cell k4
                have y_gk := Since.cell gk
                clear q0 q1 q2 q3 q4 q5 q6 q7 q8 k0 k1 k2 k3 k4
                repeat (go_big_quiet_step ((fail)))
                refine wpQuiet_nil ?_
                rintro W ⟨⟨_, hb⟩, rfl⟩
                try dsimp only at hb ⊢
                replace gk : W.cell? _ = _ := y_gk ⟨W, hb⟩
                clear y_q0 y_q1 y_q2 y_q3 y_q4 y_q5 y_q6 y_q7 y_q8 y_k0 y_k1 y_k2 y_k3 y_k4 y_gk
                replace hyb := hyb.below hb hyb.lt
                replace hk := hk.below hb hk.lt
                replace hWW := Below.trans hWW (Below.mono hb (Below.size hWW))
                clear hb
                have q0 := hyb.cell_ 0 rfl
                have q1 := hyb.cell_ 1 rfl
                have q2 := hyb.cell_ 2 rfl
                have q3 := hyb.cell_ 3 rfl
                have q4 := hyb.cell_ 4 rfl
                have q5 := hyb.cell_ 5 rfl
                have q6 := hyb.cell_ 6 rfl
                have q7 := hyb.cell_ 7 rfl
                have q8 := hyb.cell_ 8 rfl
                have k0 := hk.cell_ 0 rfl
                have k1 := hk.cell_ 1 rfl
                have k2 := hk.cell_ 2 rfl
                have k3 := hk.cell_ 3 rfl
                have k4 := hk.cell_ 4 rfl
                clear q0 q1 q2 q3 q4 q5 q6 q7 q8 k0 k1 k2 k3 k4
                clear g1 g2 g3 j14 gk
                go_wp2_with fail
                go_roundw
                case rel => exact ⟨i + 1, kc + 1, by go_num, by go_num, by omega, (HCN.out : Hid _), by omega, hWW⟩
                case measure => simp [intOf]; omega
              · have g1 : decide (l1 < x.day - ma) = false := decide_eq_false hold
                rw [g1, if_neg (by simp), HKC.out] at HCN
                clear hold
                go_upto_region 20 with fail
                clear q2
                have j14 := hl.cell_ 14 (v := .int .i64 x.day) rfl
                clear hl
                go_wp2_with fail
                have q0 := hyb.cell_ 0 rfl
                have q1 := hyb.cell_ 1 rfl
                have q2 := hyb.cell_ 2 rfl
                have q3 := hyb.cell_ 3 rfl
                have q4 := hyb.cell_ 4 rfl
                have q5 := hyb.cell_ 5 rfl
                have q6 := hyb.cell_ 6 rfl
                have q7 := hyb.cell_ 7 rfl
                have q8 := hyb.cell_ 8 rfl
                have k0 := hk.cell_ 0 rfl
                have k1 := hk.cell_ 1 rfl
                have k2 := hk.cell_ 2 rfl
                have k3 := hk.cell_ 3 rfl
                have k4 := hk.cell_ 4 rfl
                refine wp_region_quiet (C := fun w' => ∃ u : Since W, w' = u.w) (by kernel_rfl) (by kernel_rfl) (Since.start W) ?_
                dsimp only
                have y_q0 := Since.cell q0
                have y_q1 := Since.cell q1
                have y_q2 := Since.cell q2
                have y_q3 := Since.cell q3
                have y_q4 := Since.cell q4
                have y_q5 := Since.cell q5
                have y_q6 := Since.cell q6
                have y_q7 := Since.cell q7
                have y_q8 := Since.cell q8
                have y_k0 := Since.cell k0
                have y_k1 := Since.cell k1
                have y_k2 := Since.cell k2
                have y_k3 := Since.cell k3
                have y_k4 := Since.cell k4
                have y_j14 := Since.cell j14
                clear q0 q1 q2 q3 q4 q5 q6 q7 q8 k0 k1 k2 k3 k4
                repeat (go_big_quiet_step ((fail)))
                refine wpQuiet_nil ?_
                rintro W ⟨⟨_, hb⟩, rfl⟩
                try dsimp only at hb ⊢
                replace j14 : W.cell? _ = _ := y_j14 ⟨W, hb⟩
                clear y_q0 y_q1 y_q2 y_q3 y_q4 y_q5 y_q6 y_q7 y_q8 y_k0 y_k1 y_k2 y_k3 y_k4 y_j14
                replace hyb := hyb.below hb hyb.lt
                replace hk := hk.below hb hk.lt
                replace hWW := Below.trans hWW (Below.mono hb (Below.size hWW))
                clear hb
                have q0 := hyb.cell_ 0 rfl
                have q1 := hyb.cell_ 1 rfl
                have q2 := hyb.cell_ 2 rfl
                have q3 := hyb.cell_ 3 rfl
                have q4 := hyb.cell_ 4 rfl
                have q5 := hyb.cell_ 5 rfl
                have q6 := hyb.cell_ 6 rfl
                have q7 := hyb.cell_ 7 rfl
                have q8 := hyb.cell_ 8 rfl
                have k0 := hk.cell_ 0 rfl
                have k1 := hk.cell_ 1 rfl
                have k2 := hk.cell_ 2 rfl
                have k3 := hk.cell_ 3 rfl
                have k4 := hk.cell_ 4 rfl
                clear q0 q1 q2 q3 q4 q5 q6 q7 q8 k0 k1 k2 k3 k4
                clear g1 j14
                go_wp2_with fail
                go_roundw
                case rel => exact ⟨i + 1, kc, by go_num, by go_num, by omega, (HCN.out : Hid _), by omega, hWW⟩
                case measure => simp [intOf]; omega
            · have HV : Hid (oldF s.rules ⟨id, root, 3, co, lo, ma, wi, le, fs⟩ x.day = decide (l2 < x.day - ma)) := by show _ = _; rw [HRU.out]; unfold oldF lifeF; simp
              rw [HV.out] at HCN HGA
              have hyb := Blk.new W 54 #[.int .i64 id, .int .i64 root, .int .i64 3, .int .i64 co, .int .i64 lo, .int .i64 ma, .int .i64 wi, .int .i64 le, .slice A9 fs.length c9]
              have hal := (Below.refl W.heap.size W).alloc (Nat.le_refl _) (.cells #[.int .i64 id, .int .i64 root, .int .i64 3, .int .i64 co, .int .i64 lo, .int .i64 ma, .int .i64 wi, .int .i64 le, .slice A9 fs.length c9] 54)
              go_upto_region 18 with fail
              clear d0 d1 d2 d3 d4 d5 d6 d7 d8
              replace hb := hb.trans (hal.mono hbs)
              clear hal
              generalize W.alloc (.cells #[.int .i64 id, .int .i64 root, .int .i64 3, .int .i64 co, .int .i64 lo, .int .i64 ma, .int .i64 wi, .int .i64 le, .slice A9 fs.length c9] 54) = W3 at *
              generalize W.heap.size = by_ at *
              obtain ⟨W, rfl⟩ : ∃ X : World, X = W3 := ⟨_, rfl⟩
              have q2 := hyb.cell_ 2 (v := .int .i64 3) rfl
              have hk := HK.out.below hb HK.out.lt
              have hl := HLB.out.below hb HLB.out.lt
              have hWW := hb
              clear hb
              by_cases hold : l2 < x.day - ma
              · have g1 : decide (l2 < x.day - ma) = true := decide_eq_true hold
                rw [g1, if_pos rfl, HKC.out] at HCN
                have hgk := HGA.out g1
                have hkl : kc < G.length := (List.getElem?_eq_some_iff.1 hgk).1
                obtain ⟨n9, bG, oG, hn9, hAG, hbG, gk⟩ := ints_at' (HG.out.below hWW) hkl
                obtain rfl : id = n9 := by rw [hgk] at hn9; injection hn9
                have hkk : (kc : Int) < (G.length : Int) := by omega
                have g2 : decide ((G.length : Int) ≤ (kc : Int)) = false := decide_eq_false (by omega)
                have g3 : decide (G.length ≤ kc) = false := decide_eq_false (by omega)
                clear hold hgk hn9
                subst hAG
                go_upto_region 20 with fail
                clear q2
                have j14 := hl.cell_ 14 (v := .int .i64 x.day) rfl
                go_wp2_with fail
                have q0 := hyb.cell_ 0 rfl
                have q1 := hyb.cell_ 1 rfl
                have q2 := hyb.cell_ 2 rfl
                have q3 := hyb.cell_ 3 rfl
                have q4 := hyb.cell_ 4 rfl
                have q5 := hyb.cell_ 5 rfl
                have q6 := hyb.cell_ 6 rfl
                have q7 := hyb.cell_ 7 rfl
                have q8 := hyb.cell_ 8 rfl
                have k0 := hk.cell_ 0 rfl
                have k1 := hk.cell_ 1 rfl
                have k2 := hk.cell_ 2 rfl
                have k3 := hk.cell_ 3 rfl
                have k4 := hk.cell_ 4 rfl
                refine wp_region_quiet (C := fun w' => ∃ u : Since W, w' = u.w) (by kernel_rfl) (by kernel_rfl) (Since.start W) ?_
                dsimp only
                have y_q0 := Since.cell q0
                have y_q1 := Since.cell q1
                have y_q2 := Since.cell q2
                have y_q3 := Since.cell q3
                have y_q4 := Since.cell q4
                have y_q5 := Since.cell q5
                have y_q6 := Since.cell q6
                have y_q7 := Since.cell q7
                have y_q8 := Since.cell q8
                have y_k0 := Since.cell k0
                have y_k1 := Since.cell k1
                have y_k2 := Since.cell k2
                have y_k3 := Since.cell k3
                have y_k4 := Since.cell k4
                have y_j14 := Since.cell j14
                have y_gk := Since.cell gk
                clear q0 q1 q2 q3 q4 q5 q6 q7 q8 k0 k1 k2 k3 k4
                repeat (go_big_quiet_step ((fail)))
                refine wpQuiet_nil ?_
                rintro W ⟨⟨_, hb⟩, rfl⟩
                try dsimp only at hb ⊢
                replace j14 : W.cell? _ = _ := y_j14 ⟨W, hb⟩
                replace gk : W.cell? _ = _ := y_gk ⟨W, hb⟩
                clear y_q0 y_q1 y_q2 y_q3 y_q4 y_q5 y_q6 y_q7 y_q8 y_k0 y_k1 y_k2 y_k3 y_k4 y_j14 y_gk
                replace hyb := hyb.below hb hyb.lt
                replace hk := hk.below hb hk.lt
                replace hWW := Below.trans hWW (Below.mono hb (Below.size hWW))
                clear hb
                have q0 := hyb.cell_ 0 rfl
                have q1 := hyb.cell_ 1 rfl
                have q2 := hyb.cell_ 2 rfl
                have q3 := hyb.cell_ 3 rfl
                have q4 := hyb.cell_ 4 rfl
                have q5 := hyb.cell_ 5 rfl
                have q6 := hyb.cell_ 6 rfl
                have q7 := hyb.cell_ 7 rfl
                have q8 := hyb.cell_ 8 rfl
                have k0 := hk.cell_ 0 rfl
                have k1 := hk.cell_ 1 rfl
                have k2 := hk.cell_ 2 rfl
                have k3 := hk.cell_ 3 rfl
                have k4 := hk.cell_ 4 rfl
                go_wp2_with fail
                refine wp_region_quiet (C := fun w' => ∃ u : Since W, w' = u.w) (by kernel_rfl) (by kernel_rfl) (Since.start W) ?_
                dsimp only
                have y_q0 := Since.cell q0
                have y_q1 := Since.cell q1
                have y_q2 := Since.cell q2
                have y_q3 := Since.cell q3
                have y_q4 := Since.cell q4
                have y_q5 := Since.cell q5
                have y_q6 := Since.cell q6
                have y_q7 := Since.cell q7
                have y_q8 := Since.cell q8
                have y_k0 := Since.cell k0
                have y_k1 := Since.cell k1
                have y_k2 := Since.cell k2
                have y_k3 := Since.cell k3
                have y_k4 := Since.cell k4
                have y_gk := Since.cell gk
                clear q0 q1 q2 q3 q4 q5 q6 q7 q8 k0 k1 k2 k3 k4
                repeat (go_big_quiet_step ((fail)))
                refine wpQuiet_nil ?_
                rintro W ⟨⟨_, hb⟩, rfl⟩
                try dsimp only at hb ⊢
                replace gk : W.cell? _ = _ := y_gk ⟨W, hb⟩
                clear y_q0 y_q1 y_q2 y_q3 y_q4 y_q5 y_q6 y_q7 y_q8 y_k0 y_k1 y_k2 y_k3 y_k4 y_gk
                replace hyb := hyb.below hb hyb.lt
                replace hk := hk.below hb hk.lt
                replace hWW := Below.trans hWW (Below.mono hb (Below.size hWW))
                clear hb
                have q0 := hyb.cell_ 0 rfl
                have q1 := hyb.cell_ 1 rfl
                have q2 := hyb.cell_ 2 rfl
                have q3 := hyb.cell_ 3 rfl
                have q4 := hyb.cell_ 4 rfl
                have q5 := hyb.cell_ 5 rfl
                have q6 := hyb.cell_ 6 rfl
                have q7 := hyb.cell_ 7 rfl
                have q8 := hyb.cell_ 8 rfl
                have k0 := hk.cell_ 0 rfl
                have k1 := hk.cell_ 1 rfl
                have k2 := hk.cell_ 2 rfl
                have k3 := hk.cell_ 3 rfl
                have k4 := hk.cell_ 4 rfl
                clear q0 q1 q2 q3 q4 q5 q6 q7 q8 k0 k1 k2 k3 k4
                clear g1 g2 g3 j14 gk
                go_wp2_with fail
                go_roundw
                case rel => exact ⟨i + 1, kc + 1, by go_num, by go_num, by omega, (HCN.out : Hid _), by omega, hWW⟩
                case measure => simp [intOf]; omega
              · have g1 : decide (l2 < x.day - ma) = false := decide_eq_false hold
                rw [g1, if_neg (by simp), HKC.out] at HCN
                clear hold
                go_upto_region 20 with fail
                clear q2
                have j14 := hl.cell_ 14 (v := .int .i64 x.day) rfl
                clear hl
                go_wp2_with fail
                have q0 := hyb.cell_ 0 rfl
                have q1 := hyb.cell_ 1 rfl
                have q2 := hyb.cell_ 2 rfl
                have q3 := hyb.cell_ 3 rfl
                have q4 := hyb.cell_ 4 rfl
                have q5 := hyb.cell_ 5 rfl
                have q6 := hyb.cell_ 6 rfl
                have q7 := hyb.cell_ 7 rfl
                have q8 := hyb.cell_ 8 rfl
                have k0 := hk.cell_ 0 rfl
                have k1 := hk.cell_ 1 rfl
                have k2 := hk.cell_ 2 rfl
                have k3 := hk.cell_ 3 rfl
                have k4 := hk.cell_ 4 rfl
                refine wp_region_quiet (C := fun w' => ∃ u : Since W, w' = u.w) (by kernel_rfl) (by kernel_rfl) (Since.start W) ?_
                dsimp only
                have y_q0 := Since.cell q0
                have y_q1 := Since.cell q1
                have y_q2 := Since.cell q2
                have y_q3 := Since.cell q3
                have y_q4 := Since.cell q4
                have y_q5 := Since.cell q5
                have y_q6 := Since.cell q6
                have y_q7 := Since.cell q7
                have y_q8 := Since.cell q8
                have y_k0 := Since.cell k0
                have y_k1 := Since.cell k1
                have y_k2 := Since.cell k2
                have y_k3 := Since.cell k3
                have y_k4 := Since.cell k4
                have y_j14 := Since.cell j14
                clear q0 q1 q2 q3 q4 q5 q6 q7 q8 k0 k1 k2 k3 k4
                repeat (go_big_quiet_step ((fail)))
                refine wpQuiet_nil ?_
                rintro W ⟨⟨_, hb⟩, rfl⟩
                try dsimp only at hb ⊢
                replace j14 : W.cell? _ = _ := y_j14 ⟨W, hb⟩
                clear y_q0 y_q1 y_q2 y_q3 y_q4 y_q5 y_q6 y_q7 y_q8 y_k0 y_k1 y_k2 y_k3 y_k4 y_j14
                replace hyb := hyb.below hb hyb.lt
                replace hk := hk.below hb hk.lt
                replace hWW := Below.trans hWW (Below.mono hb (Below.size hWW))
                clear hb
                have q0 := hyb.cell_ 0 rfl
                have q1 := hyb.cell_ 1 rfl
                have q2 := hyb.cell_ 2 rfl
                have q3 := hyb.cell_ 3 rfl
                have q4 := hyb.cell_ 4 rfl
                have q5 := hyb.cell_ 5 rfl
                have q6 := hyb.cell_ 6 rfl
                have q7 := hyb.cell_ 7 rfl
                have q8 := hyb.cell_ 8 rfl
                have k0 := hk.cell_ 0 rfl
                have k1 := hk.cell_ 1 rfl
                have k2 := hk.cell_ 2 rfl
                have k3 := hk.cell_ 3 rfl
                have k4 := hk.cell_ 4 rfl
                clear q0 q1 q2 q3 q4 q5 q6 q7 q8 k0 k1 k2 k3 k4
                clear g1 j14
                go_wp2_with fail
                go_roundw
                case rel => exact ⟨i + 1, kc, by go_num, by go_num, by omega, (HCN.out : Hid _), by omega, hWW⟩
                case measure => simp [intOf]; omega
          · obtain rfl : i = ys.length := by omega
            have HGL : Hid (kc = G.length) := by
              show kc = G.length
              rw [← HKC.out, ← HGG.out]
              unfold cntF expL
              rw [List.take_length, List.length_map, HYS.out]
            rw [HGL.out]
            have hB := HB7.out.trans (hb.mono HB7.out.size)
            go_wp2_with fail
            refine (awake_any _).mono ?_
            rintro e W9 ⟨rfl, hb9⟩
            have hB9 := hB.trans (hb9.mono hB.size)
            go_wp2_with fail
            go_ret
            exact ⟨rfl, hB9⟩
end Go.Proofs.Ytnejacogflkmmaa
