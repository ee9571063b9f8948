/- Parts of the proofs of this seat: OneLotLaw. Each part says what it proves; no condition beyond those stated there. -/
import Derived.Test.YtnejacogflkmmaaM31
import Derived.Test.YtnejacogflkmmaaM34

/- SheetOneLot: the walk. -/
namespace Go.Proofs.Ytnejacogflkmmaa
open Go Go.RowKit
set_option maxRecDepth 100000 in
set_option maxHeartbeats 8000000 in
theorem oneLot_walk (mw ml l0 l1 l2 : Int) (A : Option Addr) (c : Nat) (xs : List CallV) (x : CallV) (w : World) (hS : Slc CallV.enc 17 w w.heap.size A xs) (hlen : xs.length ≤ maxLen) (hin : ∀ (i : Nat) x, xs[i]? = some x → CallIn w x) :
    Calls Try.prog 8 #[.agg #[.int .i64 mw, .int .i64 ml, .int .i64 l0, .int .i64 l1, .int .i64 l2], .slice A xs.length c, .agg #[.int .i64 x.kind, .int .i64 x.id, .int .i64 x.gr, .int .i64 x.co, .int .i64 x.lo, .int .i64 x.ma, .int .i64 x.wi, .int .i64 x.le, .slice x.A x.n x.c, .int .i64 x.ng, .int .i64 x.nq, .int .i64 x.nw, .int .i64 x.nl, .int .i64 x.nk, .int .i64 x.day, .int .i64 x.cid, .int .i64 x.what]] w fun e w' => e = .returned (.bool true) ∧ Below w.heap.size w w' := by
  have HS := hide hS
  have HIN := hide hin
  have hk := (Blk.new w 27 #[.int .i64 mw, .int .i64 ml, .int .i64 l0, .int .i64 l1, .int .i64 l2]).alloc (.cells #[.int .i64 x.kind, .int .i64 x.id, .int .i64 x.gr, .int .i64 x.co, .int .i64 x.lo, .int .i64 x.ma, .int .i64 x.wi, .int .i64 x.le, .slice x.A x.n x.c, .int .i64 x.ng, .int .i64 x.nq, .int .i64 x.nw, .int .i64 x.nl, .int .i64 x.nk, .int .i64 x.day, .int .i64 x.cid, .int .i64 x.what] 64)
  have hl := Blk.new (w.alloc (.cells #[.int .i64 mw, .int .i64 ml, .int .i64 l0, .int .i64 l1, .int .i64 l2] 27)) 64 #[.int .i64 x.kind, .int .i64 x.id, .int .i64 x.gr, .int .i64 x.co, .int .i64 x.lo, .int .i64 x.ma, .int .i64 x.wi, .int .i64 x.le, .slice x.A x.n x.c, .int .i64 x.ng, .int .i64 x.nq, .int .i64 x.nw, .int .i64 x.nl, .int .i64 x.nk, .int .i64 x.day, .int .i64 x.cid, .int .i64 x.what]
  have hB := ((Below.refl w.heap.size w).alloc (Nat.le_refl _) (.cells #[.int .i64 mw, .int .i64 ml, .int .i64 l0, .int .i64 l1, .int .i64 l2] 27)).alloc (by simp) (.cells #[.int .i64 x.kind, .int .i64 x.id, .int .i64 x.gr, .int .i64 x.co, .int .i64 x.lo, .int .i64 x.ma, .int .i64 x.wi, .int .i64 x.le, .slice x.A x.n x.c, .int .i64 x.ng, .int .i64 x.nq, .int .i64 x.nw, .int .i64 x.nl, .int .i64 x.nk, .int .i64 x.day, .int .i64 x.cid, .int .i64 x.what] 64)
  rw [show (w.alloc (.cells #[.int .i64 mw, .int .i64 ml, .int .i64 l0, .int .i64 l1, .int .i64 l2] 27)).heap.size = w.heap.size + 1 by simp] at hl
  clear hS hin
  go_enter Try.func8, Try.ntmps8
  go_upto_region 1 with fail
  generalize (w.alloc (.cells #[.int .i64 mw, .int .i64 ml, .int .i64 l0, .int .i64 l1, .int .i64 l2] 27)).alloc (.cells #[.int .i64 x.kind, .int .i64 x.id, .int .i64 x.gr, .int .i64 x.co, .int .i64 x.lo, .int .i64 x.ma, .int .i64 x.wi, .int .i64 x.le, .slice x.A x.n x.c, .int .i64 x.ng, .int .i64 x.nq, .int .i64 x.nw, .int .i64 x.nl, .int .i64 x.nk, .int .i64 x.day, .int .i64 x.cid, .int .i64 x.what] 64) = W at *
  have HLG : Hid (∀ b W, Below w.heap.size w W → largeB xs 14 = b → Calls Try.prog 20 #[.slice A xs.length c, .int .i64 14] W fun e w' => e = .returned (.bool b) ∧ W = w') := fun b W hb h => large_is A c xs 14 W (Slc.on HS.out hb) hlen h
  have HLX : Hid (∀ (b : Bool) (W : World), bigB x = b → Calls Try.prog 20 #[.slice (some ⟨W.heap.size, 0, none⟩) 1 1, .int .i64 1] (W.alloc (.cells #[.int .i64 x.kind, .int .i64 x.id, .int .i64 x.gr, .int .i64 x.co, .int .i64 x.lo, .int .i64 x.ma, .int .i64 x.wi, .int .i64 x.le, .slice x.A x.n x.c, .int .i64 x.ng, .int .i64 x.nq, .int .i64 x.nw, .int .i64 x.nl, .int .i64 x.nk, .int .i64 x.day, .int .i64 x.cid, .int .i64 x.what] 64)) fun e w' => e = .returned (.bool b) ∧ W.alloc (.cells #[.int .i64 x.kind, .int .i64 x.id, .int .i64 x.gr, .int .i64 x.co, .int .i64 x.lo, .int .i64 x.ma, .int .i64 x.wi, .int .i64 x.le, .slice x.A x.n x.c, .int .i64 x.ng, .int .i64 x.nq, .int .i64 x.nw, .int .i64 x.nl, .int .i64 x.nk, .int .i64 x.day, .int .i64 x.cid, .int .i64 x.what] 64) = w') := fun b W h => large1_is x b W h
  have k0 := hk.cell_ 0 rfl
  have k1 := hk.cell_ 1 rfl
  have k2 := hk.cell_ 2 rfl
  have k3 := hk.cell_ 3 rfl
  have k4 := hk.cell_ 4 rfl
  have j0 := hl.cell_ 0 rfl
  have j1 := hl.cell_ 1 rfl
  have j2 := hl.cell_ 2 rfl
  have j3 := hl.cell_ 3 rfl
  have j4 := hl.cell_ 4 rfl
  have j5 := hl.cell_ 5 rfl
  have j6 := hl.cell_ 6 rfl
  have j7 := hl.cell_ 7 rfl
  have j8 := hl.cell_ 8 rfl
  have j9 := hl.cell_ 9 rfl
  have j10 := hl.cell_ 10 rfl
  have j11 := hl.cell_ 11 rfl
  have j12 := hl.cell_ 12 rfl
  have j13 := hl.cell_ 13 rfl
  have j14 := hl.cell_ 14 rfl
  have j15 := hl.cell_ 15 rfl
  have j16 := hl.cell_ 16 rfl
  cases hL : largeB xs 14 with
  | true =>
    have HL := hide hL
    clear hL
    go_wp2_with fail
    refine (HLG.out true W hB HL.out).mono ?_
    rintro e W' ⟨rfl, rfl⟩
    clear k0 k1 k2 k3 k4 j0 j1 j2 j3 j4 j5 j6 j7 j8 j9 j10 j11 j12 j13 j14 j15 j16
    clear hk hl
    go_wp2_with fail
    refine (awake_any _).mono ?_
    rintro e W9 ⟨rfl, hb9⟩
    have hB9 := hB.trans (hb9.mono hB.size)
    go_wp2_with fail
    go_ret
    exact ⟨rfl, hB9⟩
  | false =>
    have HL := hide hL
    clear hL
    cases hbx : bigB x with
    | true =>
      have HBX := hide hbx
      clear hbx
      go_wp2_with fail
      refine (HLG.out false W hB HL.out).mono ?_
      rintro e W' ⟨rfl, rfl⟩
      go_wp2_with fail
      refine (HLX.out true W HBX.out).mono ?_
      rintro e W' ⟨rfl, rfl⟩
      have hal := (Below.refl W.heap.size W).alloc (Nat.le_refl _) (.cells #[.int .i64 x.kind, .int .i64 x.id, .int .i64 x.gr, .int .i64 x.co, .int .i64 x.lo, .int .i64 x.ma, .int .i64 x.wi, .int .i64 x.le, .slice x.A x.n x.c, .int .i64 x.ng, .int .i64 x.nq, .int .i64 x.nw, .int .i64 x.nl, .int .i64 x.nk, .int .i64 x.day, .int .i64 x.cid, .int .i64 x.what] 64)
      replace hk := hk.below hal hk.lt
      replace hl := hl.below hal hl.lt
      replace hB := hB.trans (hal.mono hB.size)
      clear k0 k1 k2 k3 k4 j0 j1 j2 j3 j4 j5 j6 j7 j8 j9 j10 j11 j12 j13 j14 j15 j16
      clear hal
      generalize W.alloc (.cells #[.int .i64 x.kind, .int .i64 x.id, .int .i64 x.gr, .int .i64 x.co, .int .i64 x.lo, .int .i64 x.ma, .int .i64 x.wi, .int .i64 x.le, .slice x.A x.n x.c, .int .i64 x.ng, .int .i64 x.nq, .int .i64 x.nw, .int .i64 x.nl, .int .i64 x.nk, .int .i64 x.day, .int .i64 x.cid, .int .i64 x.what] 64) = W3 at *
      obtain ⟨W, rfl⟩ : ∃ X : World, X = W3 := ⟨_, rfl⟩
      have k0 := hk.cell_ 0 rfl
      have k1 := hk.cell_ 1 rfl
      have k2 := hk.cell_ 2 rfl
      have k3 := hk.cell_ 3 rfl
      have k4 := hk.cell_ 4 rfl
      have j0 := hl.cell_ 0 rfl
      have j1 := hl.cell_ 1 rfl
      have j2 := hl.cell_ 2 rfl
      have j3 := hl.cell_ 3 rfl
      have j4 := hl.cell_ 4 rfl
      have j5 := hl.cell_ 5 rfl
      have j6 := hl.cell_ 6 rfl
      have j7 := hl.cell_ 7 rfl
      have j8 := hl.cell_ 8 rfl
      have j9 := hl.cell_ 9 rfl
      have j10 := hl.cell_ 10 rfl
      have j11 := hl.cell_ 11 rfl
      have j12 := hl.cell_ 12 rfl
      have j13 := hl.cell_ 13 rfl
      have j14 := hl.cell_ 14 rfl
      have j15 := hl.cell_ 15 rfl
      have j16 := hl.cell_ 16 rfl
      clear k0 k1 k2 k3 k4 j0 j1 j2 j3 j4 j5 j6 j7 j8 j9 j10 j11 j12 j13 j14 j15 j16
      clear hk hl
      go_wp2_with fail
      refine (awake_any _).mono ?_
      rintro e W9 ⟨rfl, hb9⟩
      have hB9 := hB.trans (hb9.mono hB.size)
      go_wp2_with fail
      go_ret
      exact ⟨rfl, hB9⟩
    | false =>
      have HBX := hide hbx
      clear hbx
      go_wp2_with fail
      refine (HLG.out false W hB HL.out).mono ?_
      rintro e W' ⟨rfl, rfl⟩
      go_wp2_with fail
      refine (HLX.out false W HBX.out).mono ?_
      rintro e W' ⟨rfl, rfl⟩
      have hal := (Below.refl W.heap.size W).alloc (Nat.le_refl _) (.cells #[.int .i64 x.kind, .int .i64 x.id, .int .i64 x.gr, .int .i64 x.co, .int .i64 x.lo, .int .i64 x.ma, .int .i64 x.wi, .int .i64 x.le, .slice x.A x.n x.c, .int .i64 x.ng, .int .i64 x.nq, .int .i64 x.nw, .int .i64 x.nl, .int .i64 x.nk, .int .i64 x.day, .int .i64 x.cid, .int .i64 x.what] 64)
      replace hk := hk.below hal hk.lt
      replace hl := hl.below hal hl.lt
      replace hB := hB.trans (hal.mono hB.size)
      clear k0 k1 k2 k3 k4 j0 j1 j2 j3 j4 j5 j6 j7 j8 j9 j10 j11 j12 j13 j14 j15 j16
      clear hal
      generalize W.alloc (.cells #[.int .i64 x.kind, .int .i64 x.id, .int .i64 x.gr, .int .i64 x.co, .int .i64 x.lo, .int .i64 x.ma, .int .i64 x.wi, .int .i64 x.le, .slice x.A x.n x.c, .int .i64 x.ng, .int .i64 x.nq, .int .i64 x.nw, .int .i64 x.nl, .int .i64 x.nk, .int .i64 x.day, .int .i64 x.cid, .int .i64 x.what] 64) = W3 at *
      obtain ⟨W, rfl⟩ : ∃ X : World, X = W3 := ⟨_, rfl⟩
      have k0 := hk.cell_ 0 rfl
      have k1 := hk.cell_ 1 rfl
      have k2 := hk.cell_ 2 rfl
      have k3 := hk.cell_ 3 rfl
      have k4 := hk.cell_ 4 rfl
      have j0 := hl.cell_ 0 rfl
      have j1 := hl.cell_ 1 rfl
      have j2 := hl.cell_ 2 rfl
      have j3 := hl.cell_ 3 rfl
      have j4 := hl.cell_ 4 rfl
      have j5 := hl.cell_ 5 rfl
      have j6 := hl.cell_ 6 rfl
      have j7 := hl.cell_ 7 rfl
      have j8 := hl.cell_ 8 rfl
      have j9 := hl.cell_ 9 rfl
      have j10 := hl.cell_ 10 rfl
      have j11 := hl.cell_ 11 rfl
      have j12 := hl.cell_ 12 rfl
      have j13 := hl.cell_ 13 rfl
      have j14 := hl.cell_ 14 rfl
      have j15 := hl.cell_ 15 rfl
      have j16 := hl.cell_ 16 rfl
      cases hv : validRules ⟨mw, ml, l0, l1, l2⟩ with
      | false =>
        have HV := hide hv
        clear hv
        go_wp2_with fail
        refine (refValidRules_is mw ml l0 l1 l2 _ HV.out).mono ?_
        rintro e W4 ⟨rfl, hb4⟩
        replace hB := hB.trans (hb4.mono hB.size)
        clear k0 k1 k2 k3 k4 j0 j1 j2 j3 j4 j5 j6 j7 j8 j9 j10 j11 j12 j13 j14 j15 j16
        clear hk hl hb4
        go_wp2_with fail
        refine (awake_any _).mono ?_
        rintro e W9 ⟨rfl, hb9⟩
        have hB9 := hB.trans (hb9.mono hB.size)
        go_wp2_with fail
        go_ret
        exact ⟨rfl, hB9⟩
      | true =>
        have HV := hide hv
        clear hv
        go_wp2_with fail
        refine (refValidRules_is mw ml l0 l1 l2 _ HV.out).mono ?_
        rintro e W4 ⟨rfl, hb4⟩
        replace hk := hk.below hb4 hk.lt
        replace hl := hl.below hb4 hl.lt
        replace hB := hB.trans (hb4.mono hB.size)
        clear k0 k1 k2 k3 k4 j0 j1 j2 j3 j4 j5 j6 j7 j8 j9 j10 j11 j12 j13 j14 j15 j16
        clear hb4
        have k0 := hk.cell_ 0 rfl
        have k1 := hk.cell_ 1 rfl
        have k2 := hk.cell_ 2 rfl
        have k3 := hk.cell_ 3 rfl
        have k4 := hk.cell_ 4 rfl
        obtain ⟨hl14, hbig⟩ := not_large HL.out
        have hl100 : xs.length ≤ 100 := by omega
        have HXI : Hid (∀ x ∈ xs, CallIn w x ∧ x.n ≤ 40) := fun x hx => by
          obtain ⟨j, hj⟩ := List.getElem?_of_mem hx
          exact ⟨HIN.out j x hj, (hbig x hx).1⟩
        clear hl14 hbig

        go_wp2_with fail
        refine (filled_any w mw ml l0 l1 l2 A c xs W4 HV.out hB HS.out hl100 HXI.out).mono ?_
        rintro e W5 ⟨p, rfl, hX, hnew, hb5⟩
        obtain ⟨q1, q2, q3⟩ := fill_ok (w := w) (xs := xs) HV.out hl100
        obtain ⟨s, hs⟩ : ∃ s, fillF w ⟨mw, ml, l0, l1, l2⟩ xs = s := ⟨_, rfl⟩
        rw [hs] at hX q1 q2 q3
        have HI := hide q1
        have HR := hide q2
        have HRU := hide q3
        have HF := hide q2.few
        have HNEW : Hid (∀ k, p.has k → w.heap.size ≤ k) := fun k hk => Nat.le_trans hB.size (hnew k hk)
        have HNK : Hid (∀ k, p.has k → W4.heap.size ≤ k) := hnew
        replace hB := hB.trans (hb5.mono hB.size)
        replace hk := hk.below hb5 hk.lt
        replace hl := hl.below hb5 hl.lt
        clear k0 k1 k2 k3 k4 hb5 hnew hs q1 q2 q3
        obtain ⟨W, rfl⟩ : ∃ X : World, X = W5 := ⟨_, rfl⟩
        clear hk
        have j9 := hl.cell_ 9 rfl
        have j10 := hl.cell_ 10 rfl
        have j11 := hl.cell_ 11 rfl
        have j12 := hl.cell_ 12 rfl
        have j13 := hl.cell_ 13 rfl
        have hnb := Blk.new W 62 #[.int .i64 x.ng, .int .i64 x.nq, .int .i64 x.nw, .int .i64 x.nl, .int .i64 x.nk]
        have hal := (Below.refl W.heap.size W).alloc (Nat.le_refl _) (.cells #[.int .i64 x.ng, .int .i64 x.nq, .int .i64 x.nw, .int .i64 x.nl, .int .i64 x.nk] 62)
        replace hX := hX.below hal
        replace hl := hl.below hal hl.lt
        replace hB := hB.trans (hal.mono hB.size)
        go_upto_region 7 with fail
        clear j9 j10 j11 j12 j13 hal
        generalize W.alloc (.cells #[.int .i64 x.ng, .int .i64 x.nq, .int .i64 x.nw, .int .i64 x.nl, .int .i64 x.nk] 62) = W3 at *
        generalize W.heap.size = bn at *
        obtain ⟨W, rfl⟩ : ∃ X : World, X = W3 := ⟨_, rfl⟩
        have HR50 : Hid (Room s 50) := HR.out.less (by omega)
        have n0 := hnb.cell_ 0 rfl
        have n1 := hnb.cell_ 1 rfl
        have n2 := hnb.cell_ 2 rfl
        have n3 := hnb.cell_ 3 rfl
        have n4 := hnb.cell_ 4 rfl
        have j14 := hl.cell_ 14 rfl
        go_wp2_with fail
        refine (lots_any p s (needOf x) x.day W hX HI.out HR50.out).mono ?_
        rintro e W4 ⟨AL, cL, rfl, hL, hb4, hAL⟩
        have hltp : ∀ k, p.has k → k < W.heap.size := fun k hk => hX.lt hk
        have HAL : Hid (∀ ad, AL = some ad → ¬ p.has ad.block) := fun ad h hh => by have h1 := hAL ad h; have := hltp _ hh; omega
        replace hX := hX.below hb4
        replace hl := hl.below hb4 hl.lt
        replace hnb := hnb.below hb4 hnb.lt
        replace hB := hB.trans (hb4.mono hB.size)
        clear n0 n1 n2 n3 n4 j14 hb4 hAL hltp
        have n0 := hnb.cell_ 0 rfl
        have n1 := hnb.cell_ 1 rfl
        have n2 := hnb.cell_ 2 rfl
        have n3 := hnb.cell_ 3 rfl
        have n4 := hnb.cell_ 4 rfl
        have j14 := hl.cell_ 14 rfl
        obtain ⟨L, hLL⟩ : ∃ L, lotsL s (needOf x) x.day = L := ⟨_, rfl⟩
        obtain ⟨E, hEE⟩ : ∃ E, lotsE (needOf x) x.day = E := ⟨_, rfl⟩
        rw [hLL] at hL ⊢
        rw [hEE]
        have HLL := hide hLL
        have HEE := hide hEE
        clear hLL hEE
        go_wp2_with fail
        refine (take_any p s (needOf x) x.day W4 hX HI.out HR50.out).mono ?_
        rintro e W5 ⟨p', AT, cT, rfl, hst, hT, hAT⟩
        have hC := hst.chg
        replace hL := (hL.chgA hC (Nat.le_refl _) HAL.out).more hC.size
        replace hnb := hnb.chgS hX hC (by decide)
        replace hB := hB.trans (hC.to_below hB.size fun k hk hp => by have := HNEW.out k hp; omega)
        clear n0 n1 n2 n3 n4 j14 hst hAT hC hX hl
        obtain ⟨T, hTT⟩ : ∃ T, takeL s (needOf x) x.day = T := ⟨_, rfl⟩
        obtain ⟨F, hFF⟩ : ∃ F, takeE s (needOf x) x.day = F := ⟨_, rfl⟩
        rw [hTT] at hT ⊢
        rw [hFF]
        have HTT := hide hTT
        have HFF := hide hFF
        clear hTT hFF
        cases hv9 : needB (needOf x) x.day with
        | false =>
          obtain ⟨a1, a2, a3, a4⟩ := take_bad (s := s) hv9
          obtain rfl : E = 2 := HEE.out.symm.trans a4
          obtain rfl : F = 2 := HFF.out.symm.trans a1
          obtain rfl : T = [] := HTT.out.symm.trans a2
          clear hv9 a1 a2 a3 a4 hL hT hnb
          go_wp2_with fail
          refine (awake_any _).mono ?_
          rintro e W9 ⟨rfl, hb9⟩
          have hB9 := hB.trans (hb9.mono hB.size)
          go_wp2_with fail
          go_ret
          exact ⟨rfl, hB9⟩
        | true =>
          have HV9 := hide hv9
          clear hv9
          obtain rfl : E = 0 := by rw [← HEE.out]; unfold lotsE; rw [HV9.out]; rfl
          cases hLc : L with
          | nil =>
            obtain ⟨a1, a2⟩ := take_short HV9.out (by rw [← hLc]; exact HLL.out)
            obtain rfl : F = 24 := HFF.out.symm.trans a1
            obtain rfl : T = [] := HTT.out.symm.trans a2
            clear hLc a1 a2 hL hT hnb
            go_wp2_with fail
            refine (awake_any _).mono ?_
            rintro e W9 ⟨rfl, hb9⟩
            have hB9 := hB.trans (hb9.mono hB.size)
            go_wp2_with fail
            go_ret
            exact ⟨rfl, hB9⟩
          | cons lot Lr =>
            rw [hLc] at HLL hL
            obtain ⟨a1, a2, a3, a4⟩ := take_one HI.out HV9.out HLL.out
            obtain rfl : F = 0 := HFF.out.symm.trans a1
            rw [HTT.out] at a2 a3 a4
            replace a2 : (T.length : Int) = x.nk := a2
            have HTA := hide a3
            have HTI := hide a4
            have HTL := hide a2
            have n4 := hnb.cell_ 4 (v := .int .i64 x.nk) rfl
            obtain ⟨nl, hnl⟩ : ∃ nl, (lot :: Lr).length = nl := ⟨_, rfl⟩
            rw [hnl]
            have hnl1 : 0 < nl := by rw [← hnl]; simp
            clear hnl
            have hll0 : ¬ ((nl : Int) = 0) := by omega
            have hT50 : T.length ≤ 50 := by have := (needB_ok HV9.out).1.c; have h : (needOf x).count = x.nk := rfl; omega
            have hne : ((T.length : Int) != x.nk) = false := by simp [a2]
            have HT := hide hT
            have HL2 := hide hL
            have HNB := hide hnb
            have HB9 := hide hB
            clear hLc a1 a2 a3 a4 hL hT hnb hB
            go_upto_region 16 with fail
            clear n4 hll0 hne
            generalize ((nl : Int) == 0) = z1
            generalize ((T.length : Int) != x.nk) = z2
            have hbnw : bn < W5.heap.size := HNB.out.lt
            go_loopw [13] (fun z wr => ∃ (i : Nat), z = .int .i64 i ∧ i ≤ T.length ∧ Below W5.heap.size W5 wr) (fun z _ => T.length - (intOf z).toNat)
            case atStart => exact ⟨0, rfl, Nat.zero_le _, Below.refl _ _⟩
            case round =>
              obtain ⟨W, rfl⟩ : ∃ X : World, X = wr := ⟨_, rfl⟩
              obtain ⟨i, rfl, hi, hb⟩ := hrel
              have hbs := hb.size
              by_cases hlt : i < T.length
              · obtain ⟨q, hq⟩ : ∃ q, T[i]? = some q := ⟨_, List.getElem?_eq_getElem hlt⟩
                obtain ⟨bT, oT, hAT, hbT, d0, d1, d2, d3, d4, d5, d6, d7⟩ := pce_at (HT.out.below hb) hq
                have ha := HTA.out q (List.mem_of_getElem? hq)
                have hii : (i : Int) < (T.length : Int) := by omega
                rw [ha.lot] at d2
                rw [show q.grade = x.ng from ha.g] at d3
                rw [show q.colour = x.nq from ha.c] at d4
                rw [show q.width = x.nw from ha.w] at d5
                rw [show q.length = x.nl from ha.l] at d6
                rw [ha.u] at d7
                have HQ := hide hq
                clear ha hq
                obtain ⟨lz, bL, oL, hkl, hAL, hbL, dl⟩ := ints_at' (HL2.out.below hb) (k := 0) (by simp)
                simp only [List.getElem?_cons_zero, Option.some.injEq] at hkl
                subst hkl
                simp only [Nat.add_zero] at dl
                have HAT := hide hAT
                subst hAT hAL
                have hqb := Blk.new W 48 #[.int .i64 q.id, .int .i64 q.root, .int .i64 lot, .int .i64 x.ng, .int .i64 x.nq, .int .i64 x.nw, .int .i64 x.nl, .int .i64 0]
                have hal := (Below.refl W.heap.size W).alloc (Nat.le_refl _) (.cells #[.int .i64 q.id, .int .i64 q.root, .int .i64 lot, .int .i64 x.ng, .int .i64 x.nq, .int .i64 x.nw, .int .i64 x.nl, .int .i64 0] 48)
                go_upto_region 19 with fail
                clear d0 d1 d2 d3 d4 d5 d6 d7
                replace dl := (hal.cell (p := ⟨bL, oL, none⟩) (Nat.lt_of_lt_of_le hbL hbs)).trans dl
                replace hb := hb.trans (hal.mono hbs)
                generalize W.alloc (.cells #[.int .i64 q.id, .int .i64 q.root, .int .i64 lot, .int .i64 x.ng, .int .i64 x.nq, .int .i64 x.nw, .int .i64 x.nl, .int .i64 0] 48) = W3 at *
                generalize W.heap.size = bq at *
                obtain ⟨W, rfl⟩ : ∃ X : World, X = W3 := ⟨_, rfl⟩
                have hnb := HNB.out.below hb HNB.out.lt
                clear hal
                have ei : IntKind.i64.wrap ((i : Int) + 1) = ((i + 1 : Nat) : Int) := by rw [IntWalk.i64_in _ (by omega)]; push_cast; rfl
                have hl1 : (0 : Int) < (nl : Int) := by omega
                have hWW := hb
                clear hb
                cases i with
                | zero =>
                  have g0 : decide ((0 : Int) < ((0 : Nat) : Int)) = false := rfl
                  have g1 : decide ((0 : Nat) < 0) = false := rfl
                  go_wp2_with fail
                  have q0 := hqb.cell_ 0 rfl
                  have q1 := hqb.cell_ 1 rfl
                  have q2 := hqb.cell_ 2 rfl
                  have q3 := hqb.cell_ 3 rfl
                  have q4 := hqb.cell_ 4 rfl
                  have q5 := hqb.cell_ 5 rfl
                  have q6 := hqb.cell_ 6 rfl
                  have q7 := hqb.cell_ 7 rfl
                  have n0 := hnb.cell_ 0 rfl
                  have n1 := hnb.cell_ 1 rfl
                  have n2 := hnb.cell_ 2 rfl
                  have n3 := hnb.cell_ 3 rfl
                  have n4 := hnb.cell_ 4 rfl
                  refine wp_region_quiet (C := fun w' => ∃ u : Since W, w' = u.w) (by kernel_rfl) (by kernel_rfl) (Since.start W) ?_
                  dsimp only
                  have y_q0 := Since.cell q0
                  have y_q1 := Since.cell q1
                  have y_q2 := Since.cell q2
                  have y_q3 := Since.cell q3
                  have y_q4 := Since.cell q4
                  have y_q5 := Since.cell q5
                  have y_q6 := Since.cell q6
                  have y_q7 := Since.cell q7
                  have y_n0 := Since.cell n0
                  have y_n1 := Since.cell n1
                  have y_n2 := Since.cell n2
                  have y_n3 := Since.cell n3
                  have y_n4 := Since.cell n4
                  have y_dl := Since.cell dl
                  clear q0 q1 q2 q3 q4 q5 q6 q7 n0 n1 n2 n3 n4
                  repeat (go_big_quiet_step ((fail)))
                  refine wpQuiet_nil ?_
                  rintro W ⟨⟨_, hb⟩, rfl⟩
                  try dsimp only at hb ⊢
                  replace dl : W.cell? _ = _ := y_dl ⟨W, hb⟩
                  clear y_q0 y_q1 y_q2 y_q3 y_q4 y_q5 y_q6 y_q7 y_n0 y_n1 y_n2 y_n3 y_n4 y_dl
                  replace hqb := hqb.below hb hqb.lt
                  replace hnb := hnb.below hb hnb.lt
                  replace hWW := Below.trans hWW (Below.mono hb (Below.size hWW))
                  clear hb
                  have q0 := hqb.cell_ 0 rfl
                  have q1 := hqb.cell_ 1 rfl
                  have q2 := hqb.cell_ 2 rfl
                  have q3 := hqb.cell_ 3 rfl
                  have q4 := hqb.cell_ 4 rfl
                  have q5 := hqb.cell_ 5 rfl
                  have q6 := hqb.cell_ 6 rfl
                  have q7 := hqb.cell_ 7 rfl
                  have n0 := hnb.cell_ 0 rfl
                  have n1 := hnb.cell_ 1 rfl
                  have n2 := hnb.cell_ 2 rfl
                  have n3 := hnb.cell_ 3 rfl
                  have n4 := hnb.cell_ 4 rfl
                  clear q0 q1 q2 q3 q4 q5 q6 q7 n0 n1 n2 n3 n4
                  go_wp2_with fail
                  go_roundw
                  case rel => exact ⟨0 + 1, by go_num, by omega, hWW⟩
                  case measure => simp [intOf]; omega
                | succ j =>
                  obtain ⟨y, hy⟩ : ∃ y, T[j]? = some y := ⟨_, List.getElem?_eq_getElem (by omega)⟩
                  obtain ⟨bT2, oT2, hAT2, hbT2, e0, _, _, _, _, _, _, _⟩ := pce_at (HT.out.below hWW) hy
                  have hid := HTI.out j y q hy HQ.out
                  obtain ⟨rfl, rfl⟩ : bT = bT2 ∧ oT = oT2 := by injection hAT2 with h1; injection h1 with h2 h3; exact ⟨h2, h3⟩
                  obtain ⟨iv, hiv⟩ : ∃ iv : Int, iv = ((j + 1 : Nat) : Int) := ⟨_, rfl⟩
                  rw [← hiv] at ei ⊢
                  have g0 : decide ((0 : Int) < iv) = true := decide_eq_true (by omega)
                  have ej : IntKind.i64.wrap (iv - 1) = (j : Int) := by rw [IntWalk.i64_in _ (by omega)]; omega
                  have hjj : (j : Int) < (T.length : Int) := by omega
                  have g2 : decide (q.id ≤ y.id) = false := decide_eq_false (by omega)
                  have HIV := hide hiv
                  clear hiv hid hy hAT2
                  go_wp2_with fail
                  have q0 := hqb.cell_ 0 rfl
                  have q1 := hqb.cell_ 1 rfl
                  have q2 := hqb.cell_ 2 rfl
                  have q3 := hqb.cell_ 3 rfl
                  have q4 := hqb.cell_ 4 rfl
                  have q5 := hqb.cell_ 5 rfl
                  have q6 := hqb.cell_ 6 rfl
                  have q7 := hqb.cell_ 7 rfl
                  have n0 := hnb.cell_ 0 rfl
                  have n1 := hnb.cell_ 1 rfl
                  have n2 := hnb.cell_ 2 rfl
                  have n3 := hnb.cell_ 3 rfl
                  have n4 := hnb.cell_ 4 rfl
                  refine wp_region_quiet (C := fun w' => ∃ u : Since W, w' = u.w) (by kernel_rfl) (by kernel_rfl) (Since.start W) ?_
                  dsimp only
                  have y_q0 := Since.cell q0
                  have y_q1 := Since.cell q1
                  have y_q2 := Since.cell q2
                  have y_q3 := Since.cell q3
                  have y_q4 := Since.cell q4
                  have y_q5 := Since.cell q5
                  have y_q6 := Since.cell q6
                  have y_q7 := Since.cell q7
                  have y_n0 := Since.cell n0
                  have y_n1 := Since.cell n1
                  have y_n2 := Since.cell n2
                  have y_n3 := Since.cell n3
                  have y_n4 := Since.cell n4
                  have y_dl := Since.cell dl
                  have y_e0 := Since.cell e0
                  clear q0 q1 q2 q3 q4 q5 q6 q7 n0 n1 n2 n3 n4
                  repeat (go_big_quiet_step ((fail)))
                  refine wpQuiet_nil ?_
                  rintro W ⟨⟨_, hb⟩, rfl⟩
                  try dsimp only at hb ⊢
                  replace dl : W.cell? _ = _ := y_dl ⟨W, hb⟩
                  replace e0 : W.cell? _ = _ := y_e0 ⟨W, hb⟩
                  clear y_q0 y_q1 y_q2 y_q3 y_q4 y_q5 y_q6 y_q7 y_n0 y_n1 y_n2 y_n3 y_n4 y_dl y_e0
                  replace hqb := hqb.below hb hqb.lt
                  replace hnb := hnb.below hb hnb.lt
                  replace hWW := Below.trans hWW (Below.mono hb (Below.size hWW))
                  clear hb
                  have q0 := hqb.cell_ 0 rfl
                  have q1 := hqb.cell_ 1 rfl
                  have q2 := hqb.cell_ 2 rfl
                  have q3 := hqb.cell_ 3 rfl
                  have q4 := hqb.cell_ 4 rfl
                  have q5 := hqb.cell_ 5 rfl
                  have q6 := hqb.cell_ 6 rfl
                  have q7 := hqb.cell_ 7 rfl
                  have n0 := hnb.cell_ 0 rfl
                  have n1 := hnb.cell_ 1 rfl
                  have n2 := hnb.cell_ 2 rfl
                  have n3 := hnb.cell_ 3 rfl
                  have n4 := hnb.cell_ 4 rfl
                  clear q0 q1 q2 q3 q4 q5 q6 q7 n0 n1 n2 n3 n4
                  go_wp2_with fail
                  go_roundw
                  case rel => exact ⟨j + 1 + 1, by go_num, by omega, hWW⟩
                  case measure => have := HIV.out; simp [intOf]; omega
              · obtain rfl : i = T.length := by omega
                have hB := HB9.out.trans (hb.mono HB9.out.size)
                go_wp2_with fail
                refine (awake_any _).mono ?_
                rintro e W9 ⟨rfl, hb9⟩
                have hB9 := hB.trans (hb9.mono hB.size)
                go_wp2_with fail
                go_ret
                exact ⟨rfl, hB9⟩
end Go.Proofs.Ytnejacogflkmmaa
