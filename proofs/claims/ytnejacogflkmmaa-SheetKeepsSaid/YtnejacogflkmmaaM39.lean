/- Parts of the proofs of this seat: KeepsLaw. Each part says what it proves; no condition beyond those stated there. -/
import Derived.Test.YtnejacogflkmmaaM29
import Derived.Test.YtnejacogflkmmaaM31
import Derived.Test.YtnejacogflkmmaaM36
import Derived.Test.YtnejacogflkmmaaM37
import Derived.Test.YtnejacogflkmmaaM38

/- SheetKeeps: the walk. -/
namespace Go.Proofs.Ytnejacogflkmmaa
open Go Go.RowKit
set_option maxRecDepth 100000 in
set_option maxHeartbeats 8000000 in
theorem keeps_walk (mw ml l0 l1 l2 : Int) (A : Option Addr) (c : Nat) (xs : List CallV) (x : CallV) (w : World) (hS : Slc CallV.enc 17 w w.heap.size A xs) (hlen : xs.length ≤ maxLen) (hin : ∀ (i : Nat) x, xs[i]? = some x → CallIn w x) :
    Calls Try.prog 9 #[.agg #[.int .i64 mw, .int .i64 ml, .int .i64 l0, .int .i64 l1, .int .i64 l2], .slice A xs.length c, .agg #[.int .i64 x.kind, .int .i64 x.id, .int .i64 x.gr, .int .i64 x.co, .int .i64 x.lo, .int .i64 x.ma, .int .i64 x.wi, .int .i64 x.le, .slice x.A x.n x.c, .int .i64 x.ng, .int .i64 x.nq, .int .i64 x.nw, .int .i64 x.nl, .int .i64 x.nk, .int .i64 x.day, .int .i64 x.cid, .int .i64 x.what]] w fun e w' => e = .returned (.bool true) ∧ Below w.heap.size w w' := by
  have HS := hide hS
  have HIN := hide hin
  have hk := (Blk.new w 27 #[.int .i64 mw, .int .i64 ml, .int .i64 l0, .int .i64 l1, .int .i64 l2]).alloc (.cells #[.int .i64 x.kind, .int .i64 x.id, .int .i64 x.gr, .int .i64 x.co, .int .i64 x.lo, .int .i64 x.ma, .int .i64 x.wi, .int .i64 x.le, .slice x.A x.n x.c, .int .i64 x.ng, .int .i64 x.nq, .int .i64 x.nw, .int .i64 x.nl, .int .i64 x.nk, .int .i64 x.day, .int .i64 x.cid, .int .i64 x.what] 64)
  have hl := Blk.new (w.alloc (.cells #[.int .i64 mw, .int .i64 ml, .int .i64 l0, .int .i64 l1, .int .i64 l2] 27)) 64 #[.int .i64 x.kind, .int .i64 x.id, .int .i64 x.gr, .int .i64 x.co, .int .i64 x.lo, .int .i64 x.ma, .int .i64 x.wi, .int .i64 x.le, .slice x.A x.n x.c, .int .i64 x.ng, .int .i64 x.nq, .int .i64 x.nw, .int .i64 x.nl, .int .i64 x.nk, .int .i64 x.day, .int .i64 x.cid, .int .i64 x.what]
  have hB := ((Below.refl w.heap.size w).alloc (Nat.le_refl _) (.cells #[.int .i64 mw, .int .i64 ml, .int .i64 l0, .int .i64 l1, .int .i64 l2] 27)).alloc (by simp) (.cells #[.int .i64 x.kind, .int .i64 x.id, .int .i64 x.gr, .int .i64 x.co, .int .i64 x.lo, .int .i64 x.ma, .int .i64 x.wi, .int .i64 x.le, .slice x.A x.n x.c, .int .i64 x.ng, .int .i64 x.nq, .int .i64 x.nw, .int .i64 x.nl, .int .i64 x.nk, .int .i64 x.day, .int .i64 x.cid, .int .i64 x.what] 64)
  rw [show (w.alloc (.cells #[.int .i64 mw, .int .i64 ml, .int .i64 l0, .int .i64 l1, .int .i64 l2] 27)).heap.size = w.heap.size + 1 by simp] at hl
  clear hS hin
  go_enter Try.func9, Try.ntmps9
  go_upto_region 1 with fail
  generalize (w.alloc (.cells #[.int .i64 mw, .int .i64 ml, .int .i64 l0, .int .i64 l1, .int .i64 l2] 27)).alloc (.cells #[.int .i64 x.kind, .int .i64 x.id, .int .i64 x.gr, .int .i64 x.co, .int .i64 x.lo, .int .i64 x.ma, .int .i64 x.wi, .int .i64 x.le, .slice x.A x.n x.c, .int .i64 x.ng, .int .i64 x.nq, .int .i64 x.nw, .int .i64 x.nl, .int .i64 x.nk, .int .i64 x.day, .int .i64 x.cid, .int .i64 x.what] 64) = W at *
  have HLG : Hid (∀ b W, Below w.heap.size w W → largeB xs 14 = b → Calls Try.prog 20 #[.slice A xs.length c, .int .i64 14] W fun e w' => e = .returned (.bool b) ∧ W = w') := fun b W hb h => large_is A c xs 14 W (Slc.on HS.out hb) hlen h
  have HLX : Hid (∀ (b : Bool) (W : World), bigB x = b → Calls Try.prog 20 #[.slice (some ⟨W.heap.size, 0, none⟩) 1 1, .int .i64 1] (W.alloc (.cells #[.int .i64 x.kind, .int .i64 x.id, .int .i64 x.gr, .int .i64 x.co, .int .i64 x.lo, .int .i64 x.ma, .int .i64 x.wi, .int .i64 x.le, .slice x.A x.n x.c, .int .i64 x.ng, .int .i64 x.nq, .int .i64 x.nw, .int .i64 x.nl, .int .i64 x.nk, .int .i64 x.day, .int .i64 x.cid, .int .i64 x.what] 64)) fun e w' => e = .returned (.bool b) ∧ W.alloc (.cells #[.int .i64 x.kind, .int .i64 x.id, .int .i64 x.gr, .int .i64 x.co, .int .i64 x.lo, .int .i64 x.ma, .int .i64 x.wi, .int .i64 x.le, .slice x.A x.n x.c, .int .i64 x.ng, .int .i64 x.nq, .int .i64 x.nw, .int .i64 x.nl, .int .i64 x.nk, .int .i64 x.day, .int .i64 x.cid, .int .i64 x.what] 64) = w') := fun b W h => large1_is x b W h
  have k0 := hk.cell_ 0 rfl
  have k1 := hk.cell_ 1 rfl
  have k2 := hk.cell_ 2 rfl
  have k3 := hk.cell_ 3 rfl
  have k4 := hk.cell_ 4 rfl
  have j0 := hl.cell_ 0 rfl
  have j1 := hl.cell_ 1 rfl
  have j2 := hl.cell_ 2 rfl
  have j3 := hl.cell_ 3 rfl
  have j4 := hl.cell_ 4 rfl
  have j5 := hl.cell_ 5 rfl
  have j6 := hl.cell_ 6 rfl
  have j7 := hl.cell_ 7 rfl
  have j8 := hl.cell_ 8 rfl
  have j9 := hl.cell_ 9 rfl
  have j10 := hl.cell_ 10 rfl
  have j11 := hl.cell_ 11 rfl
  have j12 := hl.cell_ 12 rfl
  have j13 := hl.cell_ 13 rfl
  have j14 := hl.cell_ 14 rfl
  have j15 := hl.cell_ 15 rfl
  have j16 := hl.cell_ 16 rfl
  cases hL : largeB xs 14 with
  | true =>
    have HL := hide hL
    clear hL
    go_wp2_with fail
    refine (HLG.out true W hB HL.out).mono ?_
    rintro e W' ⟨rfl, rfl⟩
    clear k0 k1 k2 k3 k4 j0 j1 j2 j3 j4 j5 j6 j7 j8 j9 j10 j11 j12 j13 j14 j15 j16
    clear hk hl
    go_wp2_with fail
    refine (awake_any _).mono ?_
    rintro e W9 ⟨rfl, hb9⟩
    have hB9 := hB.trans (hb9.mono hB.size)
    go_wp2_with fail
    go_ret
    exact ⟨rfl, hB9⟩
  | false =>
    have HL := hide hL
    clear hL
    cases hbx : bigB x with
    | true =>
      have HBX := hide hbx
      clear hbx
      go_wp2_with fail
      refine (HLG.out false W hB HL.out).mono ?_
      rintro e W' ⟨rfl, rfl⟩
      go_wp2_with fail
      refine (HLX.out true W HBX.out).mono ?_
      rintro e W' ⟨rfl, rfl⟩
      have hal := (Below.refl W.heap.size W).alloc (Nat.le_refl _) (.cells #[.int .i64 x.kind, .int .i64 x.id, .int .i64 x.gr, .int .i64 x.co, .int .i64 x.lo, .int .i64 x.ma, .int .i64 x.wi, .int .i64 x.le, .slice x.A x.n x.c, .int .i64 x.ng, .int .i64 x.nq, .int .i64 x.nw, .int .i64 x.nl, .int .i64 x.nk, .int .i64 x.day, .int .i64 x.cid, .int .i64 x.what] 64)
      replace hk := hk.below hal hk.lt
      replace hl := hl.below hal hl.lt
      replace hB := hB.trans (hal.mono hB.size)
      clear k0 k1 k2 k3 k4 j0 j1 j2 j3 j4 j5 j6 j7 j8 j9 j10 j11 j12 j13 j14 j15 j16
      clear hal
      generalize W.alloc (.cells #[.int .i64 x.kind, .int .i64 x.id, .int .i64 x.gr, .int .i64 x.co, .int .i64 x.lo, .int .i64 x.ma, .int .i64 x.wi, .int .i64 x.le, .slice x.A x.n x.c, .int .i64 x.ng, .int .i64 x.nq, .int .i64 x.nw, .int .i64 x.nl, .int .i64 x.nk, .int .i64 x.day, .int .i64 x.cid, .int .i64 x.what] 64) = W3 at *
      obtain ⟨W, rfl⟩ : ∃ X : World, X = W3 := ⟨_, rfl⟩
      have k0 := hk.cell_ 0 rfl
      have k1 := hk.cell_ 1 rfl
      have k2 := hk.cell_ 2 rfl
      have k3 := hk.cell_ 3 rfl
      have k4 := hk.cell_ 4 rfl
      have j0 := hl.cell_ 0 rfl
      have j1 := hl.cell_ 1 rfl
      have j2 := hl.cell_ 2 rfl
      have j3 := hl.cell_ 3 rfl
      have j4 := hl.cell_ 4 rfl
      have j5 := hl.cell_ 5 rfl
      have j6 := hl.cell_ 6 rfl
      have j7 := hl.cell_ 7 rfl
      have j8 := hl.cell_ 8 rfl
      have j9 := hl.cell_ 9 rfl
      have j10 := hl.cell_ 10 rfl
      have j11 := hl.cell_ 11 rfl
      have j12 := hl.cell_ 12 rfl
      have j13 := hl.cell_ 13 rfl
      have j14 := hl.cell_ 14 rfl
      have j15 := hl.cell_ 15 rfl
      have j16 := hl.cell_ 16 rfl
      clear k0 k1 k2 k3 k4 j0 j1 j2 j3 j4 j5 j6 j7 j8 j9 j10 j11 j12 j13 j14 j15 j16
      clear hk hl
      go_wp2_with fail
      refine (awake_any _).mono ?_
      rintro e W9 ⟨rfl, hb9⟩
      have hB9 := hB.trans (hb9.mono hB.size)
      go_wp2_with fail
      go_ret
      exact ⟨rfl, hB9⟩
    | false =>
      have HBX := hide hbx
      clear hbx
      go_wp2_with fail
      refine (HLG.out false W hB HL.out).mono ?_
      rintro e W' ⟨rfl, rfl⟩
      go_wp2_with fail
      refine (HLX.out false W HBX.out).mono ?_
      rintro e W' ⟨rfl, rfl⟩
      have hal := (Below.refl W.heap.size W).alloc (Nat.le_refl _) (.cells #[.int .i64 x.kind, .int .i64 x.id, .int .i64 x.gr, .int .i64 x.co, .int .i64 x.lo, .int .i64 x.ma, .int .i64 x.wi, .int .i64 x.le, .slice x.A x.n x.c, .int .i64 x.ng, .int .i64 x.nq, .int .i64 x.nw, .int .i64 x.nl, .int .i64 x.nk, .int .i64 x.day, .int .i64 x.cid, .int .i64 x.what] 64)
      replace hk := hk.below hal hk.lt
      replace hl := hl.below hal hl.lt
      replace hB := hB.trans (hal.mono hB.size)
      clear k0 k1 k2 k3 k4 j0 j1 j2 j3 j4 j5 j6 j7 j8 j9 j10 j11 j12 j13 j14 j15 j16
      clear hal
      generalize W.alloc (.cells #[.int .i64 x.kind, .int .i64 x.id, .int .i64 x.gr, .int .i64 x.co, .int .i64 x.lo, .int .i64 x.ma, .int .i64 x.wi, .int .i64 x.le, .slice x.A x.n x.c, .int .i64 x.ng, .int .i64 x.nq, .int .i64 x.nw, .int .i64 x.nl, .int .i64 x.nk, .int .i64 x.day, .int .i64 x.cid, .int .i64 x.what] 64) = W3 at *
      obtain ⟨W, rfl⟩ : ∃ X : World, X = W3 := ⟨_, rfl⟩
      have k0 := hk.cell_ 0 rfl
      have k1 := hk.cell_ 1 rfl
      have k2 := hk.cell_ 2 rfl
      have k3 := hk.cell_ 3 rfl
      have k4 := hk.cell_ 4 rfl
      have j0 := hl.cell_ 0 rfl
      have j1 := hl.cell_ 1 rfl
      have j2 := hl.cell_ 2 rfl
      have j3 := hl.cell_ 3 rfl
      have j4 := hl.cell_ 4 rfl
      have j5 := hl.cell_ 5 rfl
      have j6 := hl.cell_ 6 rfl
      have j7 := hl.cell_ 7 rfl
      have j8 := hl.cell_ 8 rfl
      have j9 := hl.cell_ 9 rfl
      have j10 := hl.cell_ 10 rfl
      have j11 := hl.cell_ 11 rfl
      have j12 := hl.cell_ 12 rfl
      have j13 := hl.cell_ 13 rfl
      have j14 := hl.cell_ 14 rfl
      have j15 := hl.cell_ 15 rfl
      have j16 := hl.cell_ 16 rfl
      cases hv : validRules ⟨mw, ml, l0, l1, l2⟩ with
      | false =>
        have HV := hide hv
        clear hv
        go_wp2_with fail
        refine (refValidRules_is mw ml l0 l1 l2 _ HV.out).mono ?_
        rintro e W4 ⟨rfl, hb4⟩
        replace hB := hB.trans (hb4.mono hB.size)
        clear k0 k1 k2 k3 k4 j0 j1 j2 j3 j4 j5 j6 j7 j8 j9 j10 j11 j12 j13 j14 j15 j16
        clear hk hl hb4
        go_wp2_with fail
        refine (awake_any _).mono ?_
        rintro e W9 ⟨rfl, hb9⟩
        have hB9 := hB.trans (hb9.mono hB.size)
        go_wp2_with fail
        go_ret
        exact ⟨rfl, hB9⟩
      | true =>
        have HV := hide hv
        clear hv
        go_wp2_with fail
        refine (refValidRules_is mw ml l0 l1 l2 _ HV.out).mono ?_
        rintro e W4 ⟨rfl, hb4⟩
        replace hk := hk.below hb4 hk.lt
        replace hl := hl.below hb4 hl.lt
        replace hB := hB.trans (hb4.mono hB.size)
        clear k0 k1 k2 k3 k4 j0 j1 j2 j3 j4 j5 j6 j7 j8 j9 j10 j11 j12 j13 j14 j15 j16
        clear hb4
        have k0 := hk.cell_ 0 rfl
        have k1 := hk.cell_ 1 rfl
        have k2 := hk.cell_ 2 rfl
        have k3 := hk.cell_ 3 rfl
        have k4 := hk.cell_ 4 rfl
        obtain ⟨hl14, hbig⟩ := not_large HL.out
        have hl100 : xs.length ≤ 100 := by omega
        have HXI : Hid (∀ x ∈ xs, CallIn w x ∧ x.n ≤ 40) := fun x hx => by
          obtain ⟨j, hj⟩ := List.getElem?_of_mem hx
          exact ⟨HIN.out j x hj, (hbig x hx).1⟩
        clear hl14 hbig

        go_wp2_with fail
        refine (filled_any w mw ml l0 l1 l2 A c xs W4 HV.out hB HS.out hl100 HXI.out).mono ?_
        rintro e W5 ⟨p, rfl, hX, hnew, hb5⟩
        obtain ⟨q1, q2, q3⟩ := fill_ok (w := w) (xs := xs) HV.out hl100
        obtain ⟨s, hs⟩ : ∃ s, fillF w ⟨mw, ml, l0, l1, l2⟩ xs = s := ⟨_, rfl⟩
        rw [hs] at hX q1 q2 q3
        have HI := hide q1
        have HR := hide q2
        have HRU := hide q3
        have HF := hide q2.few
        have HNEW : Hid (∀ k, p.has k → w.heap.size ≤ k) := fun k hk => Nat.le_trans hB.size (hnew k hk)
        have HNK : Hid (∀ k, p.has k → W4.heap.size ≤ k) := hnew
        replace hB := hB.trans (hb5.mono hB.size)
        replace hk := hk.below hb5 hk.lt
        replace hl := hl.below hb5 hl.lt
        clear k0 k1 k2 k3 k4 hb5 hnew hs q1 q2 q3
        obtain ⟨W, rfl⟩ : ∃ X : World, X = W5 := ⟨_, rfl⟩
        clear hk
        have HX := hide hX
        have hltp : ∀ k, p.has k → k < W.heap.size := fun k hk => HX.out.lt hk
        have HLTP := hide hltp
        have HSZ := hide (Nat.le_refl W.heap.size)
        obtain ⟨wf, hwf⟩ : ∃ wf, wf = W := ⟨_, rfl⟩
        rw [← hwf] at HLTP
        clear hX hltp HSZ
        go_wp2_with fail
        refine (items_any p s W HX.out HI.out HF.out).mono ?_
        rintro e W6 ⟨A1, c1, hs, rfl, hP, hIn, hb6, hA1⟩
        have HA1 : Hid (∀ ad, A1 = some ad → ¬ p.has ad.block) := fun ad h hh => by have h1 := hA1 ad h; have := HLTP.out _ hh; rw [hwf] at this; omega
        have HX6 := hide (HX.out.below hb6)
        replace hl := hl.below hb6 hl.lt
        replace hB := hB.trans (hb6.mono hB.size)
        have hsz6 := hb6.size
        clear hb6 hA1 HX
        go_wp2_with fail
        refine (pieces_any p s W6 HX6.out HI.out HF.out).mono ?_
        rintro e W7 ⟨A2, c2, rfl, hQ, hb7, hA2⟩
        have HA2 : Hid (∀ ad, A2 = some ad → ¬ p.has ad.block) := fun ad h hh => by have h1 := hA2 ad h; have := HLTP.out _ hh; rw [hwf] at this; omega
        have HX7 := hide (HX6.out.below hb7)
        replace hl := hl.below hb7 hl.lt
        replace hP := Slc.on hP hb7
        replace hIn := hIn.below hb7
        replace hB := hB.trans (hb7.mono hB.size)
        clear hb7 hA2 HX6 hwf hsz6 HLTP
        go_wp2_with fail
        refine (balance_any p s W7 HX7.out HI.out HF.out).mono ?_
        rintro e W8 ⟨rfl, hb8⟩
        have hX := HX7.out.below hb8
        replace hl := hl.below hb8 hl.lt
        replace hP := Slc.on hP hb8
        replace hIn := hIn.below hb8
        replace hQ := Slc.on hQ hb8
        replace hB := hB.trans (hb8.mono hB.size)
        clear hb8 HX7
        have hbb := Blk.new W8 57 #[.int .i64 s.received, .int .i64 (stockF s), .int .i64 (freeF s), .int .i64 (usedF s), .int .i64 s.waste]
        have hal := (Below.refl W8.heap.size W8).alloc (Nat.le_refl _) (.cells #[.int .i64 s.received, .int .i64 (stockF s), .int .i64 (freeF s), .int .i64 (usedF s), .int .i64 s.waste] 57)
        replace hX := hX.below hal
        replace hl := hl.below hal hl.lt
        replace hP := Slc.on hP hal
        replace hIn := hIn.below hal
        replace hQ := Slc.on hQ hal
        replace hB := hB.trans (hal.mono hB.size)
        go_upto_region 7 with fail
        clear hal
        generalize W8.alloc (.cells #[.int .i64 s.received, .int .i64 (stockF s), .int .i64 (freeF s), .int .i64 (usedF s), .int .i64 s.waste] 57) = W9 at *
        generalize W8.heap.size = bb at *
        obtain ⟨W, rfl⟩ : ∃ X : World, X = W9 := ⟨_, rfl⟩
        obtain ⟨ys, hys⟩ : ∃ ys, itemsL s = ys := ⟨_, rfl⟩
        obtain ⟨ps, hps⟩ : ∃ ps, piecesL s = ps := ⟨_, rfl⟩
        have hyl : ys.length ≤ 1000000 := by rw [← hys, items_len HI.out]; exact HF.out.it
        have hpl : ps.length ≤ 1000000 := by rw [← hps, pieces_len HI.out]; exact HF.out.pc
        rw [hys] at hIn ⊢
        rw [hps] at hQ ⊢
        have HYS := hide hys
        have HPS := hide hps
        clear hys hps
        have HR50 : Hid (Room s 50) := HR.out.less (by omega)
        have j9 := hl.cell_ 9 rfl
        have j10 := hl.cell_ 10 rfl
        have j11 := hl.cell_ 11 rfl
        have j12 := hl.cell_ 12 rfl
        have j13 := hl.cell_ 13 rfl
        have j14 := hl.cell_ 14 (v := .int .i64 x.day) rfl
        have HX := hide hX
        clear hX
        go_wp2_with fail
        refine (lots_any p s (needOf x) x.day W HX.out HI.out HR50.out).mono ?_
        rintro e W4 ⟨AL, cL, rfl, hL, hb4, hAL⟩
        have hltp : ∀ k, p.has k → k < W.heap.size := fun k hk => HX.out.lt hk
        have HAL : Hid (∀ ad, AL = some ad → ¬ p.has ad.block) := fun ad h hh => by have h1 := hAL ad h; have := hltp _ hh; omega
        have HX4 := hide (HX.out.below hb4)
        replace hl := hl.below hb4 hl.lt
        replace hbb := hbb.below hb4 hbb.lt
        replace hP := Slc.on hP hb4
        replace hIn := hIn.below hb4
        replace hQ := Slc.on hQ hb4
        replace hB := hB.trans (hb4.mono hB.size)
        clear j9 j10 j11 j12 j13 j14 hb4 hAL hltp HX
        obtain ⟨L, hLL⟩ : ∃ L, lotsL s (needOf x) x.day = L := ⟨_, rfl⟩
        obtain ⟨E, hEE⟩ : ∃ E, lotsE (needOf x) x.day = E := ⟨_, rfl⟩
        rw [hLL] at hL ⊢
        rw [hEE]
        have HLL := hide hLL
        have HEE := hide hEE
        clear hLL hEE
        have j9 := hl.cell_ 9 rfl
        have j10 := hl.cell_ 10 rfl
        have j11 := hl.cell_ 11 rfl
        have j12 := hl.cell_ 12 rfl
        have j13 := hl.cell_ 13 rfl
        have j14 := hl.cell_ 14 (v := .int .i64 x.day) rfl
        go_wp2_with fail
        refine (take_any p s (needOf x) x.day W4 HX4.out HI.out HR50.out).mono ?_
        rintro e W5 ⟨p', AT, cT, rfl, hst, _, _⟩
        have hC := hst.chg
        replace hL := (hL.chgA hC (Nat.le_refl _) HAL.out).more hC.size
        replace hP := (hP.chgA hC (Nat.le_refl _) HA1.out).more hC.size
        replace hQ := (hQ.chgA hC (Nat.le_refl _) HA2.out).more hC.size
        replace hIn := hIn.chg hC fun k hk => HX4.out.noSpan hk
        replace hl := hl.chgS HX4.out hC (by decide)
        replace hbb := hbb.chgS HX4.out hC (by decide)
        replace hB := hB.trans (hC.to_below hB.size fun k hk hp => by have := HNEW.out k hp; omega)
        have HXT := hide hst.st
        have HPG := hide hst.g
        clear j9 j10 j11 j12 j13 j14 hst hC HX4
        obtain ⟨T, hTT⟩ : ∃ T, takeL s (needOf x) x.day = T := ⟨_, rfl⟩
        obtain ⟨F, hFF⟩ : ∃ F, takeE s (needOf x) x.day = F := ⟨_, rfl⟩
        rw [hTT]
        rw [hFF]
        have HFF := hide hFF
        clear hTT hFF
        have HP := hide hP
        have HIN9 := hide hIn
        have HQ := hide hQ
        have HL9 := hide hL
        have HB9 := hide hB
        have HBB := hide hbb
        have HLB := hide hl
        clear hP hIn hQ hL hB hbb hl
        -- a call with an error
        by_cases hF0 : F = 0
        case neg =>
          have HSS : Hid (takeS s (needOf x) x.day = s) := by
            show _ = _
            cases hv9 : needB (needOf x) x.day with
            | false => unfold takeS; rw [hv9]; rfl
            | true =>
              rcases take_err (s := s) hv9 with ⟨_, _, h3, _⟩ | ⟨t, l, _, h2, _⟩
              · exact h3
              · exact absurd (HFF.out.symm.trans h2) hF0
          have hX : StA W5 p' s := by rw [← HSS.out]; exact HXT.out
          have hnf : (F != 0) = true := by simp [hF0]
          go_upto_region 10 with fail
          clear hF0 hnf
          have HXP := hide hX
          have HYF : Hid (∀ y ∈ ys, y.faults.length ≤ 100000) := fun y hy => by
            have := (HI.out.it _ _ (((items_shows HI.out).m y).1 (by rw [HYS.out]; exact hy))).2.n
            omega
          have HBC : Hid (∀ w1, StA w1 p' s → Calls Try.prog 27 #[.pointer (some ⟨p.g, 0, none⟩)] w1 fun e w' => e = .returned (.agg #[.int .i64 s.received, .int .i64 (stockF s), .int .i64 (freeF s), .int .i64 (usedF s), .int .i64 s.waste]) ∧ Below w1.heap.size w1 w') := fun w1 h => by
            have := balance_any p' s w1 h HI.out HF.out
            rw [HPG.out] at this; exact this
          have HIC : Hid (∀ w1, StA w1 p' s → Calls Try.prog 26 #[.pointer (some ⟨p.g, 0, none⟩)] w1 (ItemsPost ys w1)) := fun w1 h => by
            have := items_any p' s w1 h HI.out HF.out
            rw [HPG.out, HYS.out] at this; exact this
          have HPC : Hid (∀ w1, StA w1 p' s → Calls Try.prog 22 #[.pointer (some ⟨p.g, 0, none⟩)] w1 (PiecesPost ps w1)) := fun w1 h => by
            have := pieces_any p' s w1 h HI.out HF.out
            rw [HPG.out, HPS.out] at this; exact this
          clear hX
          have eqb := eql_bal s.received (stockF s) (freeF s) (usedF s) s.waste
          refine wp_region_pairs (args1 := #[.pointer (some ⟨p.g, 0, none⟩)]) (args3 := #[.pointer (some ⟨p.g, 0, none⟩)]) 19 2 3 7 8 [0, 1] [4, 5, 6] [9, 10, 11, 12, 13, 14, 15, 16, 17, 18] (fun k => ([undef, undef, undef, .bool true, .bool true, .slice A2 ps.length c2, .pointer (some ⟨p.g, 0, none⟩), undef, .bool true, .bool true, .bool true, .pointer (some ⟨p.g, 0, none⟩), .agg #[.int .i64 s.received, .int .i64 (stockF s), .int .i64 (freeF s), .int .i64 (usedF s), .int .i64 s.waste], .agg #[.int .i64 s.received, .int .i64 (stockF s), .int .i64 (freeF s), .int .i64 (usedF s), .int .i64 s.waste], .bool true, .bool true, .bool true, .bool true, .bool true] : List Value)[k]?.getD undef)
            (fun u w' => ∃ A c hs2, u = .slice A ys.length c ∧ Slc SH.enc 9 w' w'.heap.size A hs2 ∧ ShsIn w' hs2 ys) (fun u w' => ∃ A c, u = .slice A ps.length c ∧ Slc Piece.enc 8 w' w'.heap.size A ps) (fun u => ∃ A c, u = .slice A ys.length c) (fun u => ∃ A c, u = .slice A ps.length c) (fun u => #[.slice A1 ys.length c1, u]) (fun u => #[.slice A2 ps.length c2, u])
            (by kernel_rfl) (by kernel_rfl) (by kernel_rfl) (by kernel_rfl) (by decide) (by decide) (by decide) (by decide) (by decide) (fun u w1 w2 hb ⟨A, c, hs2, h1, h2, h3⟩ => ⟨A, c, hs2, h1, Slc.on h2 hb, h3.below hb⟩) (fun u w1 w2 hb ⟨A, c, h1, h2⟩ => ⟨A, c, h1, Slc.on h2 hb⟩) (fun u w1 ⟨A, c, _, h1, _⟩ => ⟨A, c, h1⟩) (fun u w1 ⟨A, c, h1, _⟩ => ⟨A, c, h1⟩) ⟨_, none, 0, rfl⟩ ⟨_, none, 0, rfl⟩
            rfl rfl rfl rfl rfl rfl rfl rfl rfl rfl rfl rfl (fun _ _ => rfl) (fun _ _ => rfl) (fun _ _ => rfl) (fun _ _ => rfl) ?_
          apply Exists.intro
          refine ⟨fun W1 hc => ?_, ?_⟩
          · dsimp only [pick, List.filterMap, List.getElem?_cons_succ, List.getElem?_cons_zero]
            repeat (go_big_quiet_step (fail))
            exact wpQuiet_nil rfl
          refine ⟨by simp [Act.eval], rfl, fun w1 hb1 => ?_, fun u1 ⟨A9, c9, hu1⟩ => ?_⟩
          · refine (HIC.out w1 (HXP.out.below hb1)).mono ?_
            rintro e w2 ⟨A8, c8, hs8, rfl, hS8, hI8, hb8, _⟩
            exact ⟨_, rfl, ⟨A8, c8, hs8, rfl, hS8, hI8⟩, hb8⟩
          subst hu1
          refine ⟨rfl, by simp [Act.eval, Act.put], fun w1 hb1 ⟨A8, c8, hs8, he, hS8, hI8⟩ => ?_, ?_⟩
          · injection he with he _ he2
            subst he he2
            exact sameItems_yes A1 c1 A9 c9 ys hs hs8 w1 (Slc.on HP.out hb1) (HIN9.out.below hb1) hS8 hI8 hyl HYF.out
          apply Exists.intro
          refine ⟨fun W1 hc => ?_, ?_⟩
          · dsimp only [pick, List.filterMap, List.getElem?_cons_succ, List.getElem?_cons_zero, Act.put, Option.getD_some]
            simp only [List.setIfInBounds_toArray, List.set_cons_succ, List.set_cons_zero]
            repeat (go_big_quiet_step (fail))
            exact wpQuiet_nil rfl
          refine ⟨by kernel_rfl, by (repeat (first | exact trivial | refine ⟨_, _, rfl, rfl, by kernel_rfl, by kernel_rfl, ?_⟩)), by simp [Act.eval], rfl, fun w1 hb1 => ?_, fun u2 ⟨A7, c7, hu2⟩ => ?_⟩
          · refine (HPC.out w1 (HXP.out.below hb1)).mono ?_
            rintro e w2 ⟨A8, c8, rfl, hS8, hb8, _⟩
            exact ⟨_, rfl, ⟨A8, c8, rfl, hS8⟩, hb8⟩
          subst hu2
          refine ⟨rfl, by simp [Act.eval, Act.put], fun w1 hb1 ⟨A8, c8, he, hS8⟩ => ?_, ?_⟩
          · injection he with he _ he2
            subst he he2
            exact samePieces_yes A2 c2 A7 c7 ps w1 (Slc.on HQ.out hb1) hS8 hpl
          apply Exists.intro
          refine ⟨fun W1 hc => ?_, ?_⟩
          · have hbb1 := HBB.out.below hc HBB.out.lt
            have z0 := Since.cell (hbb1.cell_ 0 rfl)
            have z1 := Since.cell (hbb1.cell_ 1 rfl)
            have z2 := Since.cell (hbb1.cell_ 2 rfl)
            have z3 := Since.cell (hbb1.cell_ 3 rfl)
            have z4 := Since.cell (hbb1.cell_ 4 rfl)
            have hX1 := HXP.out.below hc
            clear hbb1
            dsimp only [pick, List.filterMap, List.getElem?_cons_succ, List.getElem?_cons_zero, Act.put, Option.getD_some]
            simp only [List.setIfInBounds_toArray, List.set_cons_succ, List.set_cons_zero]
            repeat (go_big_quiet_step ((first | (go_at_call 27; exact Since.calls (HBC.out _ (hX1.below (Since.h _)))) | (go_at_call 12; exact Since.calls (awake_any _)))))
            exact wpQuiet_nil rfl
          refine ⟨by kernel_rfl, by (repeat (first | exact trivial | refine ⟨_, _, rfl, rfl, by kernel_rfl, by kernel_rfl, ?_⟩)), fun w8 hb8 => ?_⟩
          simp only [List.drop_succ_cons, List.drop_zero]
          have hB8 := HB9.out.trans (hb8.mono HB9.out.size)
          go_wp2_with fail
          go_ret
          exact ⟨rfl, hB8⟩
        case pos =>
          subst hF0
          have HNB : Hid (needB (needOf x) x.day = true) := by
            show _ = _
            cases hv9 : needB (needOf x) x.day with
            | true => rfl
            | false => have h := HFF.out; unfold takeE at h; rw [hv9] at h; simp at h
          obtain ⟨t, l, hq, _, hts, _⟩ : ∃ t l, takeF s (needOf x) x.day = some (t, l) ∧ takeE s (needOf x) x.day = 0 ∧ takeS s (needOf x) x.day = t ∧ takeL s (needOf x) x.day = l := by
            rcases take_err (s := s) HNB.out with ⟨_, h2, _⟩ | h
            · rw [HFF.out] at h2; simp at h2
            · exact h
          have HIN2 := hide (left_in HI.out HNB.out hq)
          have hTI := (take_inv HI.out (needOf x) x.day).1
          have hTR := take_room (r := 50) (HR.out.less (by omega)) (needOf x) x.day
          have hX := HXT.out
          rw [hts] at hTI hTR hX
          have HTI := hide hTI
          have HTR := hide hTR
          have HE0 : Hid (E = 0) := by show E = 0; rw [← HEE.out]; unfold lotsE; rw [HNB.out]; rfl
          have HE1 : Hid (lotsE (needOf x) x.day = 0) := by show _ = _; unfold lotsE; rw [HNB.out]; rfl
          rw [HE0.out]
          rw [← HPG.out]
          clear hq hts hTI hTR
          have hl := HLB.out
          have j9 := hl.cell_ 9 rfl
          have j10 := hl.cell_ 10 rfl
          have j11 := hl.cell_ 11 rfl
          have j12 := hl.cell_ 12 rfl
          have j13 := hl.cell_ 13 rfl
          have j14 := hl.cell_ 14 (v := .int .i64 x.day) rfl
          go_wp2_with fail
          refine (lots_any p' t (needOf x) x.day W5 hX HTI.out HTR.out).mono ?_
          rintro e W6 ⟨AM, cM, rfl, hM, hb6, _⟩
          rw [HE1.out]
          obtain ⟨M, hMM⟩ : ∃ M, lotsL t (needOf x) x.day = M := ⟨_, rfl⟩
          rw [hMM] at hM HIN2 ⊢
          rw [HLL.out] at HIN2
          have hMl : M.length ≤ 1000000 := by
            rw [← hMM]
            unfold lotsL
            split
            · refine Nat.le_trans (List.length_filter_le _ _) ?_
              unfold ordF; rw [sortK_len]; exact Nat.le_trans (lots_len t _) HTR.out.few.lo
            · simp
          have hLl : L.length ≤ 1000000 := by
            rw [← HLL.out]
            unfold lotsL
            split
            · refine Nat.le_trans (List.length_filter_le _ _) ?_
              unfold ordF; rw [sortK_len]; exact Nat.le_trans (lots_len s _) HF.out.lo
            · simp
          have HM := hide hM
          have HL6 := hide (Slc.on HL9.out hb6)
          have HB6 := hide (HB9.out.trans (hb6.mono HB9.out.size))
          clear j9 j10 j11 j12 j13 j14 hl hX hb6 hM hMM
          go_upto_region 15 with fail
          go_loopw [17] (fun z wr => ∃ (i : Nat), z = .int .i64 i ∧ i ≤ M.length ∧ Below W6.heap.size W6 wr) (fun z _ => M.length - (intOf z).toNat)
          case atStart => exact ⟨0, rfl, Nat.zero_le _, Below.refl _ _⟩
          case round =>
            obtain ⟨W, rfl⟩ : ∃ X : World, X = wr := ⟨_, rfl⟩
            obtain ⟨i, rfl, hi, hb⟩ := hrel
            by_cases hlt : i < M.length
            · obtain ⟨m, bM, oM, hm, hAM, hbM, dm⟩ := ints_at' (HM.out.below hb) hlt
              have hii : (i : Int) < (M.length : Int) := by omega
              have ei : IntKind.i64.wrap ((i : Int) + 1) = ((i + 1 : Nat) : Int) := by rw [IntWalk.i64_in _ (by omega)]; push_cast; rfl
              have HIM : Hid (m ∈ L) := HIN2.out m (List.mem_of_getElem? hm)
              have HM9 := hide hm
              clear hm dm
              have HAM := hide hAM
              subst hAM
              go_upto_region 19 with fail
              go_loopw [18, 19] (fun v z wr => ∃ (k : Nat) (fb : Bool), z = .int .i64 k ∧ v = .bool fb ∧ k ≤ L.length ∧ Hid (fb = (L.take k).any fun y => decide (y = m)) ∧ Below W6.heap.size W6 wr) (fun _ z _ => L.length - (intOf z).toNat)
              case atStart => exact ⟨0, false, rfl, rfl, Nat.zero_le _, (rfl : Hid _), hb⟩
              case round =>
                clear hb
                obtain ⟨W, rfl⟩ : ∃ X : World, X = wr := ⟨_, rfl⟩
                obtain ⟨k, fb, rfl, rfl, hk9, HFB, hWW⟩ := hrel
                by_cases hlt2 : k < L.length
                · obtain ⟨y, bL, oL, hy, hAL, hbL, dl⟩ := ints_at' (HL6.out.below hWW) hlt2
                  obtain ⟨m2, bM2, oM2, hm2, hAM2, _, dm⟩ := ints_at' (HM.out.below hWW) hlt
                  obtain ⟨rfl, rfl⟩ : bM = bM2 ∧ oM = oM2 := by injection hAM2 with h1; injection h1 with h2 h3; exact ⟨h2, h3⟩
                  obtain rfl : m = m2 := by rw [HM9.out] at hm2; injection hm2
                  have hkk : (k : Int) < (L.length : Int) := by omega
                  have ek : IntKind.i64.wrap ((k : Int) + 1) = ((k + 1 : Nat) : Int) := by rw [IntWalk.i64_in _ (by omega)]; push_cast; rfl
                  have HT := hide (any_take (v := m) hy)
                  clear hm2 hAM2 hy
                  subst hAL
                  cases fb with
                  | true =>
                    have HT2 : Hid (true = (L.take (k + 1)).any fun y => decide (y = m)) := by show _ = _; rw [HT.out, ← HFB.out]; rfl
                    go_wp2_with fail
                    refine wp_region_quiet (C := fun w' => ∃ u : Since W, w' = u.w) (by kernel_rfl) (by kernel_rfl) (Since.start W) ?_
                    dsimp only
                    have y_dl := Since.cell dl
                    have y_dm := Since.cell dm
                    repeat (go_big_quiet_step ((fail)))
                    refine wpQuiet_nil ?_
                    rintro W ⟨⟨_, hb⟩, rfl⟩
                    try dsimp only at hb ⊢
                    replace dl : W.cell? _ = _ := y_dl ⟨W, hb⟩
                    replace dm : W.cell? _ = _ := y_dm ⟨W, hb⟩
                    clear y_dl y_dm
                    replace hWW := Below.trans hWW (Below.mono hb (Below.size hWW))
                    clear hb
                    go_wp2_with fail
                    clear dl dm
                    go_roundw
                    case rel => exact ⟨k + 1, true, by go_num, rfl, by omega, HT2, hWW⟩
                    case measure => simp [intOf]; omega
                  | false =>
                    by_cases hym : y = m
                    · have HT2 : Hid (true = (L.take (k + 1)).any fun y => decide (y = m)) := by show _ = _; rw [HT.out, decide_eq_true hym]; simp
                      have g1 : (y == m) = true := by simp [hym]
                      have g2 : decide (y = m) = true := decide_eq_true hym
                      clear hym
                      go_wp2_with fail
                      refine wp_region_quiet (C := fun w' => ∃ u : Since W, w' = u.w) (by kernel_rfl) (by kernel_rfl) (Since.start W) ?_
                      dsimp only
                      have y_dl := Since.cell dl
                      have y_dm := Since.cell dm
                      repeat (go_big_quiet_step ((fail)))
                      refine wpQuiet_nil ?_
                      rintro W ⟨⟨_, hb⟩, rfl⟩
                      try dsimp only at hb ⊢
                      replace dl : W.cell? _ = _ := y_dl ⟨W, hb⟩
                      replace dm : W.cell? _ = _ := y_dm ⟨W, hb⟩
                      clear y_dl y_dm
                      replace hWW := Below.trans hWW (Below.mono hb (Below.size hWW))
                      clear hb
                      go_wp2_with fail
                      clear dl dm
                      go_roundw
                      case rel => exact ⟨k + 1, true, by go_num, rfl, by omega, HT2, hWW⟩
                      case measure => simp [intOf]; omega
                    · have HT2 : Hid (false = (L.take (k + 1)).any fun y => decide (y = m)) := by show _ = _; rw [HT.out, decide_eq_false hym, ← HFB.out]; rfl
                      have g1 : (y == m) = false := by simp [hym]
                      have g2 : decide (y = m) = false := decide_eq_false hym
                      go_wp2_with fail
                      refine wp_region_quiet (C := fun w' => ∃ u : Since W, w' = u.w) (by kernel_rfl) (by kernel_rfl) (Since.start W) ?_
                      dsimp only
                      have y_dl := Since.cell dl
                      have y_dm := Since.cell dm
                      repeat (go_big_quiet_step ((fail)))
                      refine wpQuiet_nil ?_
                      rintro W ⟨⟨_, hb⟩, rfl⟩
                      try dsimp only at hb ⊢
                      replace dl : W.cell? _ = _ := y_dl ⟨W, hb⟩
                      replace dm : W.cell? _ = _ := y_dm ⟨W, hb⟩
                      clear y_dl y_dm
                      replace hWW := Below.trans hWW (Below.mono hb (Below.size hWW))
                      clear hb
                      go_wp2_with fail
                      clear dl dm
                      go_roundw
                      case rel => exact ⟨k + 1, false, by go_num, rfl, by omega, HT2, hWW⟩
                      case measure => simp [intOf]; omega
                · obtain rfl : k = L.length := by omega
                  have hfb : fb = true := by
                    rw [HFB.out, List.take_length]
                    exact List.any_eq_true.2 ⟨m, HIM.out, by simp⟩
                  subst hfb
                  go_wp2_with fail
                  go_roundw
                  case rel => exact ⟨i + 1, by go_num, by omega, hWW⟩
                  case measure => simp [intOf]; omega
            · obtain rfl : i = M.length := by omega
              have hB := HB6.out.trans (hb.mono HB6.out.size)
              go_wp2_with fail
              refine (awake_any _).mono ?_
              rintro e W9 ⟨rfl, hb9⟩
              have hB9 := hB.trans (hb9.mono hB.size)
              go_wp2_with fail
              go_ret
              exact ⟨rfl, hB9⟩
end Go.Proofs.Ytnejacogflkmmaa
