/- Parts of the proofs of this seat: Called. Each part says what it proves; no condition beyond those stated there. -/
import Derived.Test.YtpeokpnjnmgloaaM24
import Derived.Test.YtpeokpnjnmgloaaM27
import Derived.Test.YtpeokpnjnmgloaaM30
import Derived.Test.YtpeokpnjnmgloaaM35

/- called: a call of a script, but Receive, on a store: the walk. -/
namespace Go.Proofs.Ytpeokpnjnmgloaa
open Go Go.RowKit
set_option maxRecDepth 100000 in
set_option maxHeartbeats 4000000 in
theorem called_any (p : Fp) (s : SS) (x : CallV) (w : World) (hX : StA w p s) (hI : Inv s) (hF : Room s 50) (hk0 : kd x ≠ 0) :
    Calls Try.prog 9 #[.pointer (some ⟨p.g, 0, none⟩), .agg #[.int .i64 x.kind, .int .i64 x.id, .int .i64 x.gr, .int .i64 x.co, .int .i64 x.lo, .int .i64 x.ma, .int .i64 x.wi, .int .i64 x.le, .slice x.A x.n x.c, .int .i64 x.ng, .int .i64 x.nq, .int .i64 x.nw, .int .i64 x.nl, .int .i64 x.nk, .int .i64 x.day, .int .i64 x.cid, .int .i64 x.what]] w fun e w' => ∃ p', e = .returned (.tuple #[]) ∧ Stp w p (calF s x) w' p' := by
  have HI := hide hI
  have HF := hide hF
  have HK0 := hide hk0
  clear hk0
  have hcb := Blk.new w 40 #[.int .i64 x.kind, .int .i64 x.id, .int .i64 x.gr, .int .i64 x.co, .int .i64 x.lo, .int .i64 x.ma, .int .i64 x.wi, .int .i64 x.le, .slice x.A x.n x.c, .int .i64 x.ng, .int .i64 x.nq, .int .i64 x.nw, .int .i64 x.nl, .int .i64 x.nk, .int .i64 x.day, .int .i64 x.cid, .int .i64 x.what]
  have hal := (Below.refl w.heap.size w).alloc (Nat.le_refl _) (.cells #[.int .i64 x.kind, .int .i64 x.id, .int .i64 x.gr, .int .i64 x.co, .int .i64 x.lo, .int .i64 x.ma, .int .i64 x.wi, .int .i64 x.le, .slice x.A x.n x.c, .int .i64 x.ng, .int .i64 x.nq, .int .i64 x.nw, .int .i64 x.nl, .int .i64 x.nk, .int .i64 x.day, .int .i64 x.cid, .int .i64 x.what] 40)
  replace hX := hX.below hal
  have hC : Chg p.has w (w.alloc (.cells #[.int .i64 x.kind, .int .i64 x.id, .int .i64 x.gr, .int .i64 x.co, .int .i64 x.lo, .int .i64 x.ma, .int .i64 x.wi, .int .i64 x.le, .slice x.A x.n x.c, .int .i64 x.ng, .int .i64 x.nq, .int .i64 x.nw, .int .i64 x.nl, .int .i64 x.nk, .int .i64 x.day, .int .i64 x.cid, .int .i64 x.what] 40)) := .of_below hal
  have HDO : Hid (calF s x = if kd x = 1 then takeS s (needOf x) x.day
    else if kd x = 2 then takeS s (needOf x) x.day
    else if kd x = 3 then useS s x.cid x.what
    else if kd x = 4 then backS s x.cid
    else if kd x = 5 then scrapF s x.cid
    else if kd x = 6 then expireS s x.day
    else if kd x = 7 then recallS s x.what
    else s) := by
    show _ = _
    unfold calF doF
    rw [if_neg HK0.out, if_neg HK0.out]
  clear hI hF hal
  go_enter Try.func9, Try.ntmps9
  have y0 := hcb.cell_ 0 rfl
  go_upto_region 2 with fail
  clear y0
  obtain ⟨k, hk⟩ : ∃ k, (IntKind.u64.wrap x.kind).tmod 9 = k := ⟨_, rfl⟩
  have HK : Hid (kd x = k) := hk
  rw [hk]
  clear hk
  generalize w.alloc (.cells #[.int .i64 x.kind, .int .i64 x.id, .int .i64 x.gr, .int .i64 x.co, .int .i64 x.lo, .int .i64 x.ma, .int .i64 x.wi, .int .i64 x.le, .slice x.A x.n x.c, .int .i64 x.ng, .int .i64 x.nq, .int .i64 x.nw, .int .i64 x.nl, .int .i64 x.nk, .int .i64 x.day, .int .i64 x.cid, .int .i64 x.what] 40) = W at *
  generalize w.heap.size = bx at *
  have y1 := hcb.cell_ 1 rfl
  have y2 := hcb.cell_ 2 rfl
  have y3 := hcb.cell_ 3 rfl
  have y4 := hcb.cell_ 4 rfl
  have y5 := hcb.cell_ 5 rfl
  have y6 := hcb.cell_ 6 rfl
  have y7 := hcb.cell_ 7 rfl
  have y8 := hcb.cell_ 8 rfl
  have y9 := hcb.cell_ 9 rfl
  have y10 := hcb.cell_ 10 rfl
  have y11 := hcb.cell_ 11 rfl
  have y12 := hcb.cell_ 12 rfl
  have y13 := hcb.cell_ 13 rfl
  have y14 := hcb.cell_ 14 rfl
  have y15 := hcb.cell_ 15 rfl
  have y16 := hcb.cell_ 16 rfl
  by_cases h1 : k = 1
  · have HE : Hid (calF s x = takeS s (needOf x) x.day) := by show _ = _; rw [HDO.out, HK.out, if_pos h1]
    clear HDO
    go_wp2_with fail
    refine (take_any p s (needOf x) x.day W hX HI.out HF.out).mono ?_
    rintro e W4 ⟨p', A', c', rfl, hst, _⟩
    clear hcb hX
    go_wp2_with fail
    refine bodyPost_end (v := .tuple #[]) (results_none rfl _ _ _) rfl ?_
    rw [HE.out]
    exact ⟨p', rfl, ⟨hst.st, hst.g, fun j hj => by rcases hst.sub j hj with h | h; exact .inl h; exact .inr (Nat.le_trans hC.size h), hC.trans hst.chg⟩⟩
  by_cases h2 : k = 2
  · have HE : Hid (calF s x = takeS s (needOf x) x.day) := by show _ = _; rw [HDO.out, HK.out, if_neg h1, if_pos h2]
    clear HDO
    go_wp2_with fail
    refine (take_any p s (needOf x) x.day W hX HI.out HF.out).mono ?_
    rintro e W4 ⟨p', A', c', rfl, hst, _⟩
    clear hcb hX
    go_wp2_with fail
    refine bodyPost_end (v := .tuple #[]) (results_none rfl _ _ _) rfl ?_
    rw [HE.out]
    exact ⟨p', rfl, ⟨hst.st, hst.g, fun j hj => by rcases hst.sub j hj with h | h; exact .inl h; exact .inr (Nat.le_trans hC.size h), hC.trans hst.chg⟩⟩
  by_cases h3 : k = 3
  · have HE : Hid (calF s x = useS s x.cid x.what) := by show _ = _; rw [HDO.out, HK.out, if_neg h1, if_neg h2, if_pos h3]
    clear HDO
    go_wp2_with fail
    refine (use_any p s x.cid x.what W hX HI.out HF.out.few).mono ?_
    rintro e W4 ⟨rfl, hX4, hC4⟩
    replace hC := hC.trans hC4
    clear hcb hX hC4
    go_wp2_with fail
    refine bodyPost_end (v := .tuple #[]) (results_none rfl _ _ _) rfl ?_
    rw [HE.out]
    exact ⟨p, rfl, .mk1 hX4 hC⟩
  by_cases h4 : k = 4
  · have HE : Hid (calF s x = backS s x.cid) := by show _ = _; rw [HDO.out, HK.out, if_neg h1, if_neg h2, if_neg h3, if_pos h4]
    clear HDO
    go_wp2_with fail
    refine (return_any p s x.cid W hX HI.out HF.out.few).mono ?_
    rintro e W4 ⟨rfl, hX4, hC4⟩
    replace hC := hC.trans hC4
    clear hcb hX hC4
    go_wp2_with fail
    refine bodyPost_end (v := .tuple #[]) (results_none rfl _ _ _) rfl ?_
    rw [HE.out]
    exact ⟨p, rfl, .mk1 hX4 hC⟩
  by_cases h5 : k = 5
  · have HE : Hid (calF s x = scrapF s x.cid) := by show _ = _; rw [HDO.out, HK.out, if_neg h1, if_neg h2, if_neg h3, if_neg h4, if_pos h5]
    clear HDO
    go_wp2_with fail
    refine (scrap_any p s x.cid W hX HI.out HF.out.few).mono ?_
    rintro e W4 ⟨rfl, hX4, hC4⟩
    replace hC := hC.trans hC4
    clear hcb hX hC4
    go_wp2_with fail
    refine bodyPost_end (v := .tuple #[]) (results_none rfl _ _ _) rfl ?_
    rw [HE.out]
    exact ⟨p, rfl, .mk1 hX4 hC⟩
  by_cases h6 : k = 6
  · have HE0 : Hid (calF s x = expireS s x.day) := by show _ = _; rw [HDO.out, HK.out, if_neg h1, if_neg h2, if_neg h3, if_neg h4, if_neg h5, if_pos h6]
    clear HDO
    cases hd : inB 0 x.day 100000 with
    | false =>
      have HE : Hid (calF s x = s) := by show _ = _; rw [HE0.out]; unfold expireS; rw [hd]; rfl
      have HDD := hide hd
      clear hd
      go_wp2_with fail
      refine (expire_bad p s x.day W hX HDD.out).mono ?_
      rintro e W4 ⟨rfl, rfl⟩
      clear hcb
      go_wp2_with fail
      refine bodyPost_end (v := .tuple #[]) (results_none rfl _ _ _) rfl ?_
      rw [HE.out]
      exact ⟨p, rfl, .mk1 hX hC⟩
    | true =>
      have HE : Hid (calF s x = expS s x.day) := by show _ = _; rw [HE0.out]; unfold expireS; rw [hd]; rfl
      have HDD := hide hd
      clear hd
      go_wp2_with fail
      refine (expire_any p s x.day W hX HI.out HF.out.few HDD.out).mono ?_
      rintro e W4 ⟨A', c', rfl, _, _, hX4, hC4⟩
      replace hC := hC.trans hC4
      clear hcb hX hC4
      go_wp2_with fail
      refine bodyPost_end (v := .tuple #[]) (results_none rfl _ _ _) rfl ?_
      rw [HE.out]
      exact ⟨p, rfl, .mk1 hX4 hC⟩
  by_cases h7 : k = 7
  · have HE0 : Hid (calF s x = recallS s x.what) := by show _ = _; rw [HDO.out, HK.out, if_neg h1, if_neg h2, if_neg h3, if_neg h4, if_neg h5, if_neg h6, if_pos h7]
    clear HDO
    cases hd : look s.lots x.what with
    | none =>
      have HE : Hid (calF s x = s) := by show _ = _; rw [HE0.out]; unfold recallS; rw [hd]; rfl
      have HDD := hide hd
      clear hd
      go_wp2_with fail
      refine (recall_bad p s x.what W hX HDD.out).mono ?_
      rintro e W4 ⟨rfl, hb4⟩
      replace hX := hX.below hb4
      replace hC := hC.trans (.of_below hb4)
      clear hcb hb4
      go_wp2_with fail
      refine bodyPost_end (v := .tuple #[]) (results_none rfl _ _ _) rfl ?_
      rw [HE.out]
      exact ⟨p, rfl, .mk1 hX hC⟩
    | some kn =>
      have HE : Hid (calF s x = rec2 s x.what) := by show _ = _; rw [HE0.out]; unfold recallS; rw [hd]; rfl
      have HDD := hide hd
      clear hd
      go_wp2_with fail
      refine (recall_any p s x.what W hX HI.out HF.out.few HDD.out).mono ?_
      rintro e W4 ⟨A', c', rfl, _, _, hX4, hC4⟩
      replace hC := hC.trans hC4
      clear hcb hX hC4
      go_wp2_with fail
      refine bodyPost_end (v := .tuple #[]) (results_none rfl _ _ _) rfl ?_
      rw [HE.out]
      exact ⟨p, rfl, .mk1 hX4 hC⟩
  · have HE : Hid (calF s x = s) := by show _ = _; rw [HDO.out, HK.out, if_neg h1, if_neg h2, if_neg h3, if_neg h4, if_neg h5, if_neg h6, if_neg h7]
    clear HDO
    go_wp2_with fail
    refine bodyPost_end (v := .tuple #[]) (results_none rfl _ _ _) rfl ?_
    rw [HE.out]
    exact ⟨p, rfl, .mk1 hX hC⟩
end Go.Proofs.Ytpeokpnjnmgloaa
