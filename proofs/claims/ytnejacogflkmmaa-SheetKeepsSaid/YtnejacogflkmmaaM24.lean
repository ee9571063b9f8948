/- Parts of the proofs of this seat: Do, Fill, RecallsLaw. Each part says what it proves; no condition beyond those stated there. -/
import Derived.Test.YtnejacogflkmmaaM19
import Derived.Test.YtnejacogflkmmaaM22
import Derived.Test.YtnejacogflkmmaaM23
import Derived.Test.YtnejacogflkmmaaM25
import Derived.Test.YtnejacogflkmmaaM26
import Derived.Test.YtnejacogflkmmaaM27

/- do: a call of a script on a store alone: the walk. -/
namespace Go.Proofs.Ytnejacogflkmmaa
open Go Go.RowKit
set_option maxRecDepth 100000 in
set_option maxHeartbeats 4000000 in
theorem do_any (p : Fp) (s : SS) (x : CallV) (fs : List Pt) (w : World) (hX : StA w p s) (hI : Inv s) (hF : Room s 50) (hn : x.n = fs.length) (hS : Slc Pt.enc 2 w w.heap.size x.A fs) (hfl : fs.length ≤ 100000) (hNA : fs ≠ [] → ∀ ad, x.A = some ad → ¬ p.has ad.block) :
    Calls Try.prog 44 #[.pointer (some ⟨p.g, 0, none⟩), .agg #[.int .i64 x.kind, .int .i64 x.id, .int .i64 x.gr, .int .i64 x.co, .int .i64 x.lo, .int .i64 x.ma, .int .i64 x.wi, .int .i64 x.le, .slice x.A x.n x.c, .int .i64 x.ng, .int .i64 x.nq, .int .i64 x.nw, .int .i64 x.nl, .int .i64 x.nk, .int .i64 x.day, .int .i64 x.cid, .int .i64 x.what]] w fun e w' => ∃ p', e = .returned (.tuple #[]) ∧ Stp w p (doF s x fs) w' p' := by
  have HI := hide hI
  have HF := hide hF
  have HN := hide hn
  clear hn
  have hcb := Blk.new w 64 #[.int .i64 x.kind, .int .i64 x.id, .int .i64 x.gr, .int .i64 x.co, .int .i64 x.lo, .int .i64 x.ma, .int .i64 x.wi, .int .i64 x.le, .slice x.A x.n x.c, .int .i64 x.ng, .int .i64 x.nq, .int .i64 x.nw, .int .i64 x.nl, .int .i64 x.nk, .int .i64 x.day, .int .i64 x.cid, .int .i64 x.what]
  have hal := (Below.refl w.heap.size w).alloc (Nat.le_refl _) (.cells #[.int .i64 x.kind, .int .i64 x.id, .int .i64 x.gr, .int .i64 x.co, .int .i64 x.lo, .int .i64 x.ma, .int .i64 x.wi, .int .i64 x.le, .slice x.A x.n x.c, .int .i64 x.ng, .int .i64 x.nq, .int .i64 x.nw, .int .i64 x.nl, .int .i64 x.nk, .int .i64 x.day, .int .i64 x.cid, .int .i64 x.what] 64)
  replace hX := hX.below hal
  replace hS := Slc.on hS hal
  have hC : Chg p.has w (w.alloc (.cells #[.int .i64 x.kind, .int .i64 x.id, .int .i64 x.gr, .int .i64 x.co, .int .i64 x.lo, .int .i64 x.ma, .int .i64 x.wi, .int .i64 x.le, .slice x.A x.n x.c, .int .i64 x.ng, .int .i64 x.nq, .int .i64 x.nw, .int .i64 x.nl, .int .i64 x.nk, .int .i64 x.day, .int .i64 x.cid, .int .i64 x.what] 64)) := .of_below hal
  have HDO : Hid (doF s x fs = if kd x = 0 then recS s (rollOf x fs)
    else if kd x = 1 then takeS s (needOf x) x.day
    else if kd x = 2 then takeS s (needOf x) x.day
    else if kd x = 3 then useS s x.cid x.what
    else if kd x = 4 then backS s x.cid
    else if kd x = 5 then scrapF s x.cid
    else if kd x = 6 then expireS s x.day
    else if kd x = 7 then recallS s x.what
    else s) := rfl
  clear hI hF hal
  go_enter Try.func44, Try.ntmps44
  have y0 := hcb.cell_ 0 rfl
  go_upto_region 2 with fail
  clear y0
  obtain ⟨k, hk⟩ : ∃ k, (IntKind.u64.wrap x.kind).tmod 9 = k := ⟨_, rfl⟩
  have HK : Hid (kd x = k) := hk
  rw [hk]
  clear hk
  generalize w.alloc (.cells #[.int .i64 x.kind, .int .i64 x.id, .int .i64 x.gr, .int .i64 x.co, .int .i64 x.lo, .int .i64 x.ma, .int .i64 x.wi, .int .i64 x.le, .slice x.A x.n x.c, .int .i64 x.ng, .int .i64 x.nq, .int .i64 x.nw, .int .i64 x.nl, .int .i64 x.nk, .int .i64 x.day, .int .i64 x.cid, .int .i64 x.what] 64) = W at *
  generalize w.heap.size = bx at *
  have y1 := hcb.cell_ 1 rfl
  have y2 := hcb.cell_ 2 rfl
  have y3 := hcb.cell_ 3 rfl
  have y4 := hcb.cell_ 4 rfl
  have y5 := hcb.cell_ 5 rfl
  have y6 := hcb.cell_ 6 rfl
  have y7 := hcb.cell_ 7 rfl
  have y8 : W.cell? ⟨bx, 8, none⟩ = some (.slice x.A fs.length x.c) := by rw [← HN.out]; exact hcb.cell_ 8 rfl
  have y9 := hcb.cell_ 9 rfl
  have y10 := hcb.cell_ 10 rfl
  have y11 := hcb.cell_ 11 rfl
  have y12 := hcb.cell_ 12 rfl
  have y13 := hcb.cell_ 13 rfl
  have y14 := hcb.cell_ 14 rfl
  have y15 := hcb.cell_ 15 rfl
  have y16 := hcb.cell_ 16 rfl
  by_cases h0 : k = 0
  · have HE : Hid (doF s x fs = recS s (rollOf x fs)) := by show _ = _; rw [HDO.out, HK.out, if_pos h0]
    clear HDO
    go_wp2_with fail
    refine (receive_any p s x.id x.gr x.co x.lo x.ma x.wi x.le x.A x.c fs W hX HI.out HF.out.few hS hfl hNA).mono ?_
    rintro e W4 ⟨rfl, hX4, hC4⟩
    replace hC := hC.trans hC4
    clear hcb hX hC4 hS
    go_wp2_with fail
    refine bodyPost_end (v := .tuple #[]) (results_none rfl _ _ _) rfl ?_
    rw [HE.out]
    exact ⟨p, rfl, .mk1 hX4 hC⟩
  by_cases h1 : k = 1
  · have HE : Hid (doF s x fs = takeS s (needOf x) x.day) := by show _ = _; rw [HDO.out, HK.out, if_neg h0, if_pos h1]
    clear HDO
    go_wp2_with fail
    refine (take_any p s (needOf x) x.day W hX HI.out HF.out).mono ?_
    rintro e W4 ⟨p', A', c', rfl, hst, _⟩
    clear hcb hX hS
    go_wp2_with fail
    refine bodyPost_end (v := .tuple #[]) (results_none rfl _ _ _) rfl ?_
    rw [HE.out]
    exact ⟨p', rfl, ⟨hst.st, hst.g, fun j hj => by rcases hst.sub j hj with h | h; exact .inl h; exact .inr (Nat.le_trans hC.size h), hC.trans hst.chg⟩⟩
  by_cases h2 : k = 2
  · have HE : Hid (doF s x fs = takeS s (needOf x) x.day) := by show _ = _; rw [HDO.out, HK.out, if_neg h0, if_neg h1, if_pos h2]
    clear HDO
    go_wp2_with fail
    refine (take_any p s (needOf x) x.day W hX HI.out HF.out).mono ?_
    rintro e W4 ⟨p', A', c', rfl, hst, _⟩
    clear hcb hX hS
    go_wp2_with fail
    refine bodyPost_end (v := .tuple #[]) (results_none rfl _ _ _) rfl ?_
    rw [HE.out]
    exact ⟨p', rfl, ⟨hst.st, hst.g, fun j hj => by rcases hst.sub j hj with h | h; exact .inl h; exact .inr (Nat.le_trans hC.size h), hC.trans hst.chg⟩⟩
  by_cases h3 : k = 3
  · have HE : Hid (doF s x fs = useS s x.cid x.what) := by show _ = _; rw [HDO.out, HK.out, if_neg h0, if_neg h1, if_neg h2, if_pos h3]
    clear HDO
    go_wp2_with fail
    refine (use_any p s x.cid x.what W hX HI.out HF.out.few).mono ?_
    rintro e W4 ⟨rfl, hX4, hC4⟩
    replace hC := hC.trans hC4
    clear hcb hX hC4 hS
    go_wp2_with fail
    refine bodyPost_end (v := .tuple #[]) (results_none rfl _ _ _) rfl ?_
    rw [HE.out]
    exact ⟨p, rfl, .mk1 hX4 hC⟩
  by_cases h4 : k = 4
  · have HE : Hid (doF s x fs = backS s x.cid) := by show _ = _; rw [HDO.out, HK.out, if_neg h0, if_neg h1, if_neg h2, if_neg h3, if_pos h4]
    clear HDO
    go_wp2_with fail
    refine (return_any p s x.cid W hX HI.out HF.out.few).mono ?_
    rintro e W4 ⟨rfl, hX4, hC4⟩
    replace hC := hC.trans hC4
    clear hcb hX hC4 hS
    go_wp2_with fail
    refine bodyPost_end (v := .tuple #[]) (results_none rfl _ _ _) rfl ?_
    rw [HE.out]
    exact ⟨p, rfl, .mk1 hX4 hC⟩
  by_cases h5 : k = 5
  · have HE : Hid (doF s x fs = scrapF s x.cid) := by show _ = _; rw [HDO.out, HK.out, if_neg h0, if_neg h1, if_neg h2, if_neg h3, if_neg h4, if_pos h5]
    clear HDO
    go_wp2_with fail
    refine (scrap_any p s x.cid W hX HI.out HF.out.few).mono ?_
    rintro e W4 ⟨rfl, hX4, hC4⟩
    replace hC := hC.trans hC4
    clear hcb hX hC4 hS
    go_wp2_with fail
    refine bodyPost_end (v := .tuple #[]) (results_none rfl _ _ _) rfl ?_
    rw [HE.out]
    exact ⟨p, rfl, .mk1 hX4 hC⟩
  by_cases h6 : k = 6
  · have HE0 : Hid (doF s x fs = expireS s x.day) := by show _ = _; rw [HDO.out, HK.out, if_neg h0, if_neg h1, if_neg h2, if_neg h3, if_neg h4, if_neg h5, if_pos h6]
    clear HDO
    cases hd : inB 0 x.day 100000 with
    | false =>
      have HE : Hid (doF s x fs = s) := by show _ = _; rw [HE0.out]; unfold expireS; rw [hd]; rfl
      have HDD := hide hd
      clear hd
      go_wp2_with fail
      refine (expire_bad p s x.day W hX HDD.out).mono ?_
      rintro e W4 ⟨rfl, rfl⟩
      clear hcb hS
      go_wp2_with fail
      refine bodyPost_end (v := .tuple #[]) (results_none rfl _ _ _) rfl ?_
      rw [HE.out]
      exact ⟨p, rfl, .mk1 hX hC⟩
    | true =>
      have HE : Hid (doF s x fs = expS s x.day) := by show _ = _; rw [HE0.out]; unfold expireS; rw [hd]; rfl
      have HDD := hide hd
      clear hd
      go_wp2_with fail
      refine (expire_any p s x.day W hX HI.out HF.out.few HDD.out).mono ?_
      rintro e W4 ⟨A', c', rfl, _, _, hX4, hC4⟩
      replace hC := hC.trans hC4
      clear hcb hS hX hC4
      go_wp2_with fail
      refine bodyPost_end (v := .tuple #[]) (results_none rfl _ _ _) rfl ?_
      rw [HE.out]
      exact ⟨p, rfl, .mk1 hX4 hC⟩
  by_cases h7 : k = 7
  · have HE0 : Hid (doF s x fs = recallS s x.what) := by show _ = _; rw [HDO.out, HK.out, if_neg h0, if_neg h1, if_neg h2, if_neg h3, if_neg h4, if_neg h5, if_neg h6, if_pos h7]
    clear HDO
    cases hd : look s.lots x.what with
    | none =>
      have HE : Hid (doF s x fs = s) := by show _ = _; rw [HE0.out]; unfold recallS; rw [hd]; rfl
      have HDD := hide hd
      clear hd
      go_wp2_with fail
      refine (recall_bad p s x.what W hX HDD.out).mono ?_
      rintro e W4 ⟨rfl, hb4⟩
      replace hX := hX.below hb4
      replace hC := hC.trans (.of_below hb4)
      clear hcb hS hb4
      go_wp2_with fail
      refine bodyPost_end (v := .tuple #[]) (results_none rfl _ _ _) rfl ?_
      rw [HE.out]
      exact ⟨p, rfl, .mk1 hX hC⟩
    | some kn =>
      have HE : Hid (doF s x fs = rec2 s x.what) := by show _ = _; rw [HE0.out]; unfold recallS; rw [hd]; rfl
      have HDD := hide hd
      clear hd
      go_wp2_with fail
      refine (recall_any p s x.what W hX HI.out HF.out.few HDD.out).mono ?_
      rintro e W4 ⟨A', c', rfl, _, _, hX4, hC4⟩
      replace hC := hC.trans hC4
      clear hcb hS hX hC4
      go_wp2_with fail
      refine bodyPost_end (v := .tuple #[]) (results_none rfl _ _ _) rfl ?_
      rw [HE.out]
      exact ⟨p, rfl, .mk1 hX4 hC⟩
  · have HE : Hid (doF s x fs = s) := by show _ = _; rw [HDO.out, HK.out, if_neg h0, if_neg h1, if_neg h2, if_neg h3, if_neg h4, if_neg h5, if_neg h6, if_neg h7]
    clear HDO
    go_wp2_with fail
    refine bodyPost_end (v := .tuple #[]) (results_none rfl _ _ _) rfl ?_
    rw [HE.out]
    exact ⟨p, rfl, .mk1 hX hC⟩
end Go.Proofs.Ytnejacogflkmmaa

/- Filled: a store behind a script: the walk. -/
namespace Go.Proofs.Ytnejacogflkmmaa
open Go Go.RowKit
noncomputable def fsOf (w : World) (x : CallV) : List Pt := open Classical in if h : CallIn w x then h.fs.choose else []
theorem fsOf_ok {w : World} {x : CallV} (h : CallIn w x) : (fsOf w x).length = x.n ∧ Slc Pt.enc 2 w w.heap.size x.A (fsOf w x) := by
  unfold fsOf
  rw [dif_pos h]
  have := h.fs.choose_spec
  exact ⟨this.1, this.2.2.1⟩
noncomputable def fillF (w : World) (r : Shelf) (xs : List CallV) : SS := xs.foldl (fun s x => doF s x (fsOf w x)) ⟨r, [], [], [], [], 0, 0, 0⟩
theorem fill_snoc (w : World) (r : Shelf) (xs : List CallV) (x : CallV) : fillF w r (xs ++ [x]) = doF (fillF w r xs) x (fsOf w x) := by unfold fillF; rw [List.foldl_append]; rfl
theorem fill_take {w : World} {r : Shelf} {xs : List CallV} {i : Nat} {x : CallV} (h : xs[i]? = some x) : fillF w r (xs.take (i + 1)) = doF (fillF w r (xs.take i)) x (fsOf w x) := by
  rw [List.take_add_one, h, Option.toList_some, fill_snoc]
theorem fold_ok {w : World} : ∀ (xs : List CallV) (s : SS) (k : Nat), Inv s → Room s (k + 50 * xs.length) → Inv (xs.foldl (fun s x => doF s x (fsOf w x)) s) ∧ Room (xs.foldl (fun s x => doF s x (fsOf w x)) s) k ∧ (xs.foldl (fun s x => doF s x (fsOf w x)) s).rules = s.rules
  | [], s, k, h, hr => ⟨h, by simpa using hr, rfl⟩
  | x :: xs, s, k, h, hr => by
    have h1 := do_inv h x (fsOf w x)
    have h2 : Room (doF s x (fsOf w x)) (k + 50 * xs.length) := do_room (by rw [List.length_cons] at hr; rw [show k + 50 * xs.length + 50 = k + 50 * (xs.length + 1) by omega]; exact hr) x _
    obtain ⟨g1, g2, g3⟩ := fold_ok xs _ k h1.1 h2
    exact ⟨g1, g2, g3.trans h1.2.ru⟩
theorem fill_ok {w : World} {r : Shelf} {xs : List CallV} (hv : validRules r = true) (hl : xs.length ≤ 100) : Inv (fillF w r xs) ∧ Room (fillF w r xs) 1000 ∧ (fillF w r xs).rules = r :=
  fold_ok xs _ 1000 (new_inv hv) (new_room.less (by omega))
theorem StoreAt.sta {w : World} {B0 g ri rp rq rl : Nat} {r : Shelf} (h : StoreAt w B0 g ri rp rq rl ⟨r, [], [], [], [], 0, 0, 0⟩) : StA w ⟨g, ri, rp, rq, rl⟩ ⟨r, [], [], [], [], 0, 0, 0⟩ := by
  obtain ⟨MI, h1, h2, h3⟩ := h.items
  have h4 : MI = [] := List.length_eq_zero_iff.1 h2
  subst h4
  exact ⟨h.blk, ⟨[], h1, rfl, fun i p q hp => by simp at hp⟩, h.pieces, h.parent, h.lots, h.ne⟩
def FillPost (w0 : World) (r : Shelf) (xs : List CallV) (w : World) (e : Ending) (w' : World) : Prop :=
  ∃ p : Fp, e = .returned (.pointer (some ⟨p.g, 0, none⟩)) ∧ StA w' p (fillF w0 r xs) ∧ (∀ k, p.has k → w.heap.size ≤ k) ∧ Below w.heap.size w w'
set_option maxRecDepth 100000 in
set_option maxHeartbeats 4000000 in
theorem filled_any (w0 : World) (mw ml l0 l1 l2 : Int) (A : Option Addr) (c : Nat) (xs : List CallV) (w : World) (hv : validRules ⟨mw, ml, l0, l1, l2⟩ = true) (hb0 : Below w0.heap.size w0 w) (hS : Slc CallV.enc 17 w0 w0.heap.size A xs) (hlen : xs.length ≤ 100) (hin : ∀ x ∈ xs, CallIn w0 x ∧ x.n ≤ 40) :
    Calls Try.prog 21 #[.agg #[.int .i64 mw, .int .i64 ml, .int .i64 l0, .int .i64 l1, .int .i64 l2], .slice A xs.length c] w (FillPost w0 ⟨mw, ml, l0, l1, l2⟩ xs w) := by
  have HV := hide hv
  have HIN := hide hin
  have HB0 := hide hb0
  have HS := hide hS
  have hk := Blk.new w 27 #[.int .i64 mw, .int .i64 ml, .int .i64 l0, .int .i64 l1, .int .i64 l2]
  have hal := (Below.refl w.heap.size w).alloc (Nat.le_refl _) (.cells #[.int .i64 mw, .int .i64 ml, .int .i64 l0, .int .i64 l1, .int .i64 l2] 27)
  clear hv hin hS hb0
  go_enter Try.func21, Try.ntmps21
  go_upto_region 1 with fail
  generalize w.alloc (.cells #[.int .i64 mw, .int .i64 ml, .int .i64 l0, .int .i64 l1, .int .i64 l2] 27) = W at *
  have k0 := hk.cell_ 0 rfl
  have k1 := hk.cell_ 1 rfl
  have k2 := hk.cell_ 2 rfl
  have k3 := hk.cell_ 3 rfl
  have k4 := hk.cell_ 4 rfl
  go_wp2_with fail
  refine (new_yes mw ml l0 l1 l2 W HV.out).mono ?_
  rintro e w2 ⟨g, ri, rp, rq, rl, rfl, hst, hg, h1, h2, h3, h4, hb2⟩
  have hX := (hst 0 (by omega)).sta
  have hws := hal.size
  have hB := hal.trans (hb2.mono hws)
  have hnew : ∀ k, (⟨g, ri, rp, rq, rl⟩ : Fp).has k → w.heap.size ≤ k := by
    rintro k (rfl | rfl | rfl | rfl | rfl)
    · exact Nat.le_trans hws hg
    · exact Nat.le_trans hws h1
    · exact Nat.le_trans hws h2
    · exact Nat.le_trans hws h3
    · exact Nat.le_trans hws h4
  clear k0 k1 k2 k3 k4 hk hst hg h1 h2 h3 h4 hb2 hal hws
  go_upto_region 5 with fail
  go_loopw [7] (fun z wr => ∃ (i : Nat) (p : Fp), z = .int .i64 i ∧ i ≤ xs.length ∧ p.g = g ∧ StA wr p (fillF w0 ⟨mw, ml, l0, l1, l2⟩ (xs.take i)) ∧ (∀ k, p.has k → w.heap.size ≤ k) ∧ Below w.heap.size w wr) (fun z _ => xs.length - (intOf z).toNat)
  case atStart => exact ⟨0, ⟨g, ri, rp, rq, rl⟩, rfl, Nat.zero_le _, rfl, hX, hnew, hB⟩
  case round =>
    clear hX hnew hB
    obtain ⟨W, rfl⟩ : ∃ X : World, X = wr := ⟨_, rfl⟩
    obtain ⟨i, p, rfl, hi, hpg, hX, hnew, hB⟩ := hrel
    by_cases hlt : i < xs.length
    · obtain ⟨x, hx⟩ : ∃ x, xs[i]? = some x := ⟨_, List.getElem?_eq_getElem hlt⟩
      have hBB : Below w0.heap.size w0 W := HB0.out.trans (hB.mono HB0.out.size)
      obtain ⟨b, off, hA, hb, d0, d1, d2, d3, d4, d5, d6, d7, d8, d9, d10, d11, d12, d13, d14, d15, d16⟩ := call_at (HS.out.below hBB) hx
      have hii : (i : Int) < (xs.length : Int) := by omega
      have ei : IntKind.i64.wrap ((i : Int) + 1) = ((i + 1 : Nat) : Int) := by rw [IntWalk.i64_in _ (by omega)]; push_cast; rfl
      obtain ⟨hc1, hc2⟩ := HIN.out x (List.mem_of_getElem? hx)
      obtain ⟨f1, f2⟩ := fsOf_ok hc1
      have HFN := hide f1
      have hfl : (fsOf w0 x).length ≤ 100000 := by omega
      have hFS : Slc Pt.enc 2 W W.heap.size x.A (fsOf w0 x) := (f2.below hBB).more hBB.size
      have HNA : Hid (fsOf w0 x ≠ [] → ∀ ad, x.A = some ad → ¬ p.has ad.block) := fun hne ad ha hh => by
        obtain ⟨y, hy⟩ := List.exists_mem_of_ne_nil _ hne
        obtain ⟨j, hj⟩ := List.getElem?_of_mem hy
        obtain ⟨b2, off2, hA2, hlt2, _⟩ := f2 j y hj
        rw [ha] at hA2
        injection hA2 with hA2
        subst hA2
        have h1 := hnew _ hh
        have h2 := HB0.out.size
        have h3 : b2 < w0.heap.size := hlt2
        have h4 : w.heap.size ≤ b2 := h1
        omega
      obtain ⟨q1, q2, q3⟩ := fill_ok (w := w0) (r := ⟨mw, ml, l0, l1, l2⟩) (xs := xs.take i) HV.out (by rw [List.length_take]; omega)
      have HT : Hid (fillF w0 ⟨mw, ml, l0, l1, l2⟩ (xs.take (i + 1)) = doF (fillF w0 ⟨mw, ml, l0, l1, l2⟩ (xs.take i)) x (fsOf w0 x)) := fill_take hx
      have HII := hide q1
      have HRM : Hid (Room (fillF w0 ⟨mw, ml, l0, l1, l2⟩ (xs.take i)) 50) := q2.less (by omega)
      have HFS := hide hFS
      have HPG := hide hpg
      clear hx f1 f2 q1 q2 q3 hFS hc1 hc2 hpg
      subst hA
      generalize fillF w0 ⟨mw, ml, l0, l1, l2⟩ (xs.take i) = si at *
      go_wp2_with fail
      rw [← HPG.out]
      refine (do_any p si x (fsOf w0 x) W hX HII.out HRM.out HFN.out.symm HFS.out hfl HNA.out).mono ?_
      rintro e W4 ⟨p', rfl, hst⟩
      have hX4 := hst.st
      have hnew4 : ∀ k, p'.has k → w.heap.size ≤ k := fun k hk => by
        rcases hst.sub k hk with h | h
        · exact hnew k h
        · exact Nat.le_trans hB.size h
      have hB4 : Below w.heap.size w W4 := hB.trans (hst.chg.to_below hB.size fun k hk hp => by have := hnew k hp; omega)
      have hpg4 : p'.g = g := hst.g.trans HPG.out
      rw [← HT.out] at hX4
      clear d0 d1 d2 d3 d4 d5 d6 d7 d8 d9 d10 d11 d12 d13 d14 d15 d16 hX hnew hB hBB hst hfl
      rw [HPG.out]
      go_wp2_with fail
      go_roundw
      case rel => exact ⟨i + 1, p', by go_num, by omega, hpg4, hX4, hnew4, hB4⟩
      case measure => simp [intOf]; omega
    · obtain rfl : i = xs.length := by omega
      rw [List.take_length] at hX
      go_wp2_with fail
      go_ret
      exact ⟨p, by rw [hpg]; rfl, hX, hnew, hB⟩
end Go.Proofs.Ytnejacogflkmmaa

/- SheetRecalls: the walk. -/
namespace Go.Proofs.Ytnejacogflkmmaa
open Go Go.RowKit
theorem refValidRules_is (mw ml l0 l1 l2 : Int) (w : World) {b : Bool} (h : validRules ⟨mw, ml, l0, l1, l2⟩ = b) :
    Calls Try.prog 16 #[.agg #[.int .i64 mw, .int .i64 ml, .int .i64 l0, .int .i64 l1, .int .i64 l2]] w fun e w' => e = .returned (.bool b) ∧ Below w.heap.size w w' := by
  subst h; exact refValidRules_any mw ml l0 l1 l2 w
theorem putU_len (l : List Int) (n : Int) : (putU l n).length ≤ l.length + 1 := by
  unfold putU
  split
  · omega
  · rw [insG_len]; exact Nat.le_refl _
def wantF (ps : List Piece) (lot : Int) : List Int := ((ps.filter fun x => decide (x.lot = lot) && !decide (x.use = 0)).map (·.use)).foldl putU []
theorem want_snoc (ps : List Piece) (lot : Int) (x : Piece) : wantF (ps ++ [x]) lot = if x.lot = lot ∧ x.use ≠ 0 then putU (wantF ps lot) x.use else wantF ps lot := by
  unfold wantF
  rw [List.filter_append, List.map_append, List.foldl_append]
  by_cases h : x.lot = lot ∧ x.use ≠ 0
  · rw [if_pos h, List.filter_cons, if_pos (by simp [h])]; rfl
  · rw [if_neg h, List.filter_cons, if_neg (by simp; intro h1; exact Classical.not_not.1 fun h2 => h ⟨h1, h2⟩)]; rfl
theorem want_len : ∀ (us l : List Int), (us.foldl putU l).length ≤ l.length + us.length
  | [], l => by simp
  | u :: us, l => by
    have := want_len us (putU l u)
    have := putU_len l u
    simp only [List.foldl_cons, List.length_cons]
    omega
theorem want_le (ps : List Piece) (lot : Int) : (wantF ps lot).length ≤ ps.length := by
  unfold wantF
  refine Nat.le_trans (want_len _ _) ?_
  rw [List.length_map]
  have := List.length_filter_le (fun x : Piece => decide (x.lot = lot) && !decide (x.use = 0)) ps
  simp only [List.length_nil]
  omega
theorem want_uses (s : SS) (lot : Int) : wantF (piecesL s) lot = usesF (recU s lot) := (uses_same _).symm
theorem rec_items {s : SS} (h : Inv s) (lot : Int) : ∀ x ∈ itemsL (rec2 s lot), x.lot ≠ lot := fun x hx => by
  obtain ⟨h1, _, h3, _⟩ := rec_all h lot
  have := ((items_shows h1).m x).1 hx
  exact ((h3 _ _).1 this).2
theorem rec_left {s : SS} (h : Inv s) (lot : Int) : ∀ x ∈ piecesL (rec2 s lot), ¬ (x.lot = lot ∧ x.use = 0) := fun x hx => by
  obtain ⟨h1, _, _, h4⟩ := rec_all h lot
  have := ((pieces_shows h1).m x).1 hx
  exact ((h4 _ _).1 this).2
theorem pieces_len {s : SS} {d : Int} (h : InvD d s) : (piecesL s).length = s.pieces.length := by unfold piecesL; exact vals_len h.kp
theorem items_len {s : SS} {d : Int} (h : InvD d s) : (itemsL s).length = s.items.length := by unfold itemsL; exact vals_len h.ki
set_option maxRecDepth 100000 in
set_option maxHeartbeats 8000000 in
theorem recalls_walk (mw ml l0 l1 l2 : Int) (A : Option Addr) (c : Nat) (xs : List CallV) (lot : Int) (w : World) (hS : Slc CallV.enc 17 w w.heap.size A xs) (hlen : xs.length ≤ maxLen) (hin : ∀ (i : Nat) x, xs[i]? = some x → CallIn w x) :
    Calls Try.prog 6 #[.agg #[.int .i64 mw, .int .i64 ml, .int .i64 l0, .int .i64 l1, .int .i64 l2], .slice A xs.length c, .int .i64 lot] w fun e w' => e = .returned (.bool true) ∧ Below w.heap.size w w' := by
  have HS := hide hS
  have HIN := hide hin
  have hk := Blk.new w 27 #[.int .i64 mw, .int .i64 ml, .int .i64 l0, .int .i64 l1, .int .i64 l2]
  have hB := (Below.refl w.heap.size w).alloc (Nat.le_refl _) (.cells #[.int .i64 mw, .int .i64 ml, .int .i64 l0, .int .i64 l1, .int .i64 l2] 27)
  clear hS hin
  go_enter Try.func6, Try.ntmps6
  go_upto_region 1 with fail
  generalize w.alloc (.cells #[.int .i64 mw, .int .i64 ml, .int .i64 l0, .int .i64 l1, .int .i64 l2] 27) = W at *
  have k0 := hk.cell_ 0 rfl
  have k1 := hk.cell_ 1 rfl
  have k2 := hk.cell_ 2 rfl
  have k3 := hk.cell_ 3 rfl
  have k4 := hk.cell_ 4 rfl
  have HLG : Hid (∀ b W, Below w.heap.size w W → largeB xs 14 = b → Calls Try.prog 20 #[.slice A xs.length c, .int .i64 14] W fun e w' => e = .returned (.bool b) ∧ W = w') := fun b W hb h => large_is A c xs 14 W (Slc.on HS.out hb) hlen h
  cases hL : largeB xs 14 with
  | true =>
    have HL := hide hL
    clear hL
    go_wp2_with fail
    refine (HLG.out true W hB HL.out).mono ?_
    rintro e W' ⟨rfl, rfl⟩
    clear k0 k1 k2 k3 k4 hk
    go_wp2_with fail
    refine (awake_any _).mono ?_
    rintro e W9 ⟨rfl, hb9⟩
    have hB9 := hB.trans (hb9.mono hB.size)
    go_wp2_with fail
    go_ret
    exact ⟨rfl, hB9⟩
  | false =>
    have HL := hide hL
    clear hL
    cases hv : validRules ⟨mw, ml, l0, l1, l2⟩ with
    | false =>
      have HV := hide hv
      clear hv
      go_wp2_with fail
      refine (HLG.out false W hB HL.out).mono ?_
      rintro e W' ⟨rfl, rfl⟩
      go_wp2_with fail
      refine (refValidRules_is mw ml l0 l1 l2 _ HV.out).mono ?_
      rintro e W4 ⟨rfl, hb4⟩
      replace hB := hB.trans (hb4.mono hB.size)
      clear k0 k1 k2 k3 k4 hb4 hk
      go_wp2_with fail
      refine (awake_any _).mono ?_
      rintro e W9 ⟨rfl, hb9⟩
      have hB9 := hB.trans (hb9.mono hB.size)
      go_wp2_with fail
      go_ret
      exact ⟨rfl, hB9⟩
    | true =>
      have HV := hide hv
      clear hv
      go_wp2_with fail
      refine (HLG.out false W hB HL.out).mono ?_
      rintro e W' ⟨rfl, rfl⟩
      go_wp2_with fail
      refine (refValidRules_is mw ml l0 l1 l2 _ HV.out).mono ?_
      rintro e W4 ⟨rfl, hb4⟩
      replace hk := hk.below hb4 hk.lt
      replace hB := hB.trans (hb4.mono hB.size)
      clear k0 k1 k2 k3 k4 hb4
      have k0 := hk.cell_ 0 rfl
      have k1 := hk.cell_ 1 rfl
      have k2 := hk.cell_ 2 rfl
      have k3 := hk.cell_ 3 rfl
      have k4 := hk.cell_ 4 rfl
      obtain ⟨hl14, hbig⟩ := not_large HL.out
      have hl100 : xs.length ≤ 100 := by omega
      have HXI : Hid (∀ x ∈ xs, CallIn w x ∧ x.n ≤ 40) := fun x hx => by
        obtain ⟨j, hj⟩ := List.getElem?_of_mem hx
        exact ⟨HIN.out j x hj, (hbig x hx).1⟩
      clear hl14 hbig
      go_wp2_with fail
      refine (filled_any w mw ml l0 l1 l2 A c xs W4 HV.out hB HS.out hl100 HXI.out).mono ?_
      rintro e W5 ⟨p, rfl, hX, hnew, hb5⟩
      obtain ⟨q1, q2, q3⟩ := fill_ok (w := w) (xs := xs) HV.out hl100
      obtain ⟨s, hs⟩ : ∃ s, fillF w ⟨mw, ml, l0, l1, l2⟩ xs = s := ⟨_, rfl⟩
      rw [hs] at hX q1 q2 q3
      have HI := hide q1
      have HR := hide q2
      have HRU := hide q3
      have HF := hide q2.few
      have HNEW : Hid (∀ k, p.has k → w.heap.size ≤ k) := fun k hk => Nat.le_trans hB.size (hnew k hk)
      replace hB := hB.trans (hb5.mono hB.size)
      replace hk := hk.below hb5 hk.lt
      clear k0 k1 k2 k3 k4 hb5 hnew hs q1 q2 q3
      obtain ⟨W, rfl⟩ : ∃ X : World, X = W5 := ⟨_, rfl⟩
      clear hk
      go_wp2_with fail
      refine (pieces_any p s W hX HI.out HF.out).mono ?_
      rintro e W6 ⟨A1, c1, rfl, hP, hb6, hA1⟩
      have hlt6 : ∀ k, p.has k → k < W.heap.size := fun k hk => hX.lt hk
      replace hX := hX.below hb6
      replace hB := hB.trans (hb6.mono hB.size)
      have HA1 : Hid (∀ ad, A1 = some ad → ¬ p.has ad.block) := fun ad h hh => by have h1 := hA1 ad h; have := hlt6 _ hh; omega
      clear hA1 hlt6 hb6
      obtain ⟨ps, hps⟩ : ∃ ps, piecesL s = ps := ⟨_, rfl⟩
      have HPS := hide hps
      have hpl : ps.length ≤ 1000000 := by rw [← hps, pieces_len HI.out]; exact HF.out.pc
      rw [hps] at hP ⊢
      clear hps
      cases hlk : look s.lots lot with
      | none =>
        have HLK := hide hlk
        clear hlk
        go_wp2_with fail
        refine (recall_bad p s lot W6 hX HLK.out).mono ?_
        rintro e W7 ⟨rfl, hb7⟩
        replace hB := hB.trans (hb7.mono hB.size)
        clear hX hP hb7
        go_wp2_with fail
        refine (awake_any _).mono ?_
        rintro e W9 ⟨rfl, hb9⟩
        have hB9 := hB.trans (hb9.mono hB.size)
        go_wp2_with fail
        go_ret
        exact ⟨rfl, hB9⟩
      | some kn =>
        have HLK := hide hlk
        clear hlk
        go_wp2_with fail
        refine (recall_any p s lot W6 hX HI.out HF.out HLK.out).mono ?_
        rintro e W7 ⟨A2, c2, rfl, hU, hA2, hX7, hC7⟩
        have hP7 : Slc Piece.enc 8 W7 W7.heap.size A1 ps := (hP.chgA hC7 (Nat.le_refl _) HA1.out).more hC7.size
        have hB7 : Below w.heap.size w W7 := hB.trans (hC7.to_below hB.size fun k hk hp => by have := HNEW.out k hp; omega)
        have HU := hide hU
        have HP7 := hide hP7
        have HX7 := hide hX7
        have HB7 := hide hB7
        have hul : (usesF (recU s lot)).length ≤ 1000000 := by rw [← want_uses]; exact Nat.le_trans (want_le _ _) (by rw [HPS.out]; exact hpl)
        clear hX hP hU hA2 hC7 hP7 hX7 hB7 hB
        go_upto_region 12 with fail
        go_loopw [11, 12] (fun v z wr => ∃ (i : Nat) (A' : Option Addr) (c' : Nat), z = .int .i64 i ∧ i ≤ ps.length ∧ v = .slice A' (wantF (ps.take i) lot).length c' ∧ Slc intEnc 1 wr wr.heap.size A' (wantF (ps.take i) lot) ∧ Below W7.heap.size W7 wr) (fun _ z _ => ps.length - (intOf z).toNat)
        case atStart => exact ⟨0, none, 0, rfl, Nat.zero_le _, rfl, Slc.nil_, Below.refl _ _⟩
        case round =>
          obtain ⟨W, rfl⟩ : ∃ X : World, X = wr := ⟨_, rfl⟩
          obtain ⟨i, A', c', rfl, hi, rfl, hW, hB⟩ := hrel
          have hBs := hB.size
          by_cases hlt : i < ps.length
          · obtain ⟨x, hx⟩ : ∃ x, ps[i]? = some x := ⟨_, List.getElem?_eq_getElem hlt⟩
            obtain ⟨b, off, hA, hb, d0, d1, d2, d3, d4, d5, d6, d7⟩ := pce_at (HP7.out.below hB) hx
            have hii : (i : Int) < (ps.length : Int) := by omega
            have ei : IntKind.i64.wrap ((i : Int) + 1) = ((i + 1 : Nat) : Int) := by rw [IntWalk.i64_in _ (by omega)]; push_cast; rfl
            have HT : Hid (wantF (ps.take (i + 1)) lot = if x.lot = lot ∧ x.use ≠ 0 then putU (wantF (ps.take i) lot) x.use else wantF (ps.take i) lot) := by show _ = _; rw [List.take_add_one, hx, Option.toList_some, want_snoc]
            have hwl : (wantF (ps.take i) lot).length ≤ 1000000 := Nat.le_trans (want_le _ _) (by rw [List.length_take]; omega)
            generalize wantF (ps.take i) lot = wl at *
            clear d0 d1 d3 d4 d5 d6 hx
            subst hA
            by_cases h1 : x.lot = lot
            · by_cases h2 : x.use = 0
              · have HT2 : Hid (wantF (ps.take (i + 1)) lot = wl) := by show _ = _; rw [HT.out, if_neg (fun h => h.2 h2)]
                have hun : (x.use != 0) = false := by simp [h2]
                clear h2
                go_wp2_with fail
                clear d2 d7 h1 hun
                go_roundw
                case rel => exact ⟨i + 1, A', c', by go_num, by omega, by rw [HT2.out], by rw [HT2.out]; exact hW, hB⟩
                case measure => simp [intOf]; omega
              · have HT2 : Hid (wantF (ps.take (i + 1)) lot = putU wl x.use) := by show _ = _; rw [HT.out, if_pos ⟨h1, h2⟩]
                have hun : (x.use != 0) = true := by simp [h2]
                clear h2
                have HW := hide hW
                clear hW
                go_wp2_with fail
                refine (put_any A' c' wl x.use W HW.out hwl).mono ?_
                rintro e W8 ⟨A3, c3, rfl, hS3, hb8⟩
                replace hB := hB.trans (hb8.mono hBs)
                clear d2 d7 h1 hun hb8
                go_wp2_with fail
                go_roundw
                case rel => exact ⟨i + 1, A3, c3, by go_num, by omega, by rw [HT2.out], by rw [HT2.out]; exact hS3, hB⟩
                case measure => simp [intOf]; omega
            · have HT2 : Hid (wantF (ps.take (i + 1)) lot = wl) := by show _ = _; rw [HT.out, if_neg (fun h => h1 h.1)]
              go_wp2_with fail
              clear d2 d7 h1
              go_roundw
              case rel => exact ⟨i + 1, A', c', by go_num, by omega, by rw [HT2.out], by rw [HT2.out]; exact hW, hB⟩
              case measure => simp [intOf]; omega
          · obtain rfl : i = ps.length := by omega
            rw [List.take_length] at hW ⊢
            have HQ : Hid (eqL (usesF (recU s lot)) (wantF ps lot) = true) := by show _ = _; rw [← HPS.out, want_uses]; unfold eqL; simp
            have hUW := Slc.on HU.out hB
            have hX := HX7.out.below hB
            have hBB := HB7.out.trans (hB.mono HB7.out.size)
            go_wp2_with fail
            refine (sameInts_any A2 c2 (usesF (recU s lot)) A' c' (wantF ps lot) W hUW hW hul).mono ?_
            rintro e W8 ⟨rfl, hb8⟩
            rw [HQ.out]
            replace hX := hX.below hb8
            replace hBB := hBB.trans (hb8.mono hBB.size)
            clear hUW hW hB hBs hb8
            obtain ⟨r1, r2, _⟩ := rec_all HI.out lot
            have HI2 := hide r1
            have hF2 : Few (rec2 s lot) := few_scrapP _ _ (few_scrapI _ _ HF.out)
            have HF2 := hide hF2
            have HRI := hide (rec_items HI.out lot)
            have HRL := hide (rec_left HI.out lot)
            clear r1 r2 hF2
            generalize rec2 s lot = s2 at *
            go_wp2_with fail
            refine (items_any p s2 W8 hX HI2.out HF2.out).mono ?_
            rintro e W9 ⟨AI, cI, hs, rfl, hSI, hIn, hb9, hAI⟩
            replace hX := hX.below hb9
            replace hBB := hBB.trans (hb9.mono hBB.size)
            clear hb9 hAI
            go_wp2_with fail
            refine (pieces_any p s2 W9 hX HI2.out HF2.out).mono ?_
            rintro e W10 ⟨AP, cP, rfl, hSP, hb10, hAP⟩
            replace hBB := hBB.trans (hb10.mono hBB.size)
            replace hSI := Slc.on hSI hb10
            replace hIn := hIn.below hb10
            clear hb10 hAP hX
            obtain ⟨ys, hys⟩ : ∃ ys, itemsL s2 = ys := ⟨_, rfl⟩
            obtain ⟨qs, hqs⟩ : ∃ qs, piecesL s2 = qs := ⟨_, rfl⟩
            have hyl : ys.length ≤ 1000000 := by rw [← hys, items_len HI2.out]; exact HF2.out.it
            have hql : qs.length ≤ 1000000 := by rw [← hqs, pieces_len HI2.out]; exact HF2.out.pc
            rw [hys] at HRI hIn ⊢
            rw [hqs] at HRL hSP ⊢
            clear hys hqs
            have HSI := hide hSI
            have HIN2 := hide hIn
            have HSP := hide hSP
            have HBB := hide hBB
            clear hSI hIn hSP hBB
            go_upto_region 20 with fail
            go_loopw [15] (fun z wr => ∃ (i : Nat), z = .int .i64 i ∧ i ≤ ys.length ∧ W10 = wr) (fun z _ => ys.length - (intOf z).toNat)
            case atStart => exact ⟨0, rfl, Nat.zero_le _, rfl⟩
            case round =>
              obtain ⟨i, rfl, hi, rfl⟩ := hrel
              by_cases hlt : i < ys.length
              · obtain ⟨x, hx⟩ : ∃ x, ys[i]? = some x := ⟨_, List.getElem?_eq_getElem hlt⟩
                obtain ⟨A9, c9, hh, _⟩ := HIN2.out.at_ hx
                obtain ⟨bS, oS, hAS, hbS, d0, d1, d2, d3, d4, d5, d6, d7, d8⟩ := sh_at HSI.out hh
                have hii : (i : Int) < (ys.length : Int) := by omega
                have ei : IntKind.i64.wrap ((i : Int) + 1) = ((i + 1 : Nat) : Int) := by rw [IntWalk.i64_in _ (by omega)]; push_cast; rfl
                have hne := HRI.out x (List.mem_of_getElem? hx)
                clear d0 d1 d2 d3 d5 d6 d7 d8 hx hh
                subst hAS
                go_wp2_with fail
                clear d4 hne
                go_roundw
                case rel => exact ⟨i + 1, by go_num, by omega, by first | rfl | trivial⟩
                case measure => simp [intOf]; omega
              · obtain rfl : i = ys.length := by omega
                go_upto_region 25 with fail
                go_loopw [16] (fun z wr => ∃ (i : Nat), z = .int .i64 i ∧ i ≤ qs.length ∧ W10 = wr) (fun z _ => qs.length - (intOf z).toNat)
                case atStart => exact ⟨0, rfl, Nat.zero_le _, rfl⟩
                case round =>
                  obtain ⟨i, rfl, hi, rfl⟩ := hrel
                  by_cases hlt : i < qs.length
                  · obtain ⟨x, hx⟩ : ∃ x, qs[i]? = some x := ⟨_, List.getElem?_eq_getElem hlt⟩
                    obtain ⟨bS, oS, hAS, hbS, d0, d1, d2, d3, d4, d5, d6, d7⟩ := pce_at HSP.out hx
                    have hii : (i : Int) < (qs.length : Int) := by omega
                    have ei : IntKind.i64.wrap ((i : Int) + 1) = ((i + 1 : Nat) : Int) := by rw [IntWalk.i64_in _ (by omega)]; push_cast; rfl
                    have hne := HRL.out x (List.mem_of_getElem? hx)
                    clear d0 d1 d3 d4 d5 d6 hx
                    subst hAS
                    by_cases h1 : x.lot = lot
                    · have h2 : ¬ x.use = 0 := fun h => hne ⟨h1, h⟩
                      clear hne
                      go_wp2_with fail
                      clear d2 d7 h1 h2
                      go_roundw
                      case rel => exact ⟨i + 1, by go_num, by omega, by first | rfl | trivial⟩
                      case measure => simp [intOf]; omega
                    · clear hne
                      go_wp2_with fail
                      clear d2 d7 h1
                      go_roundw
                      case rel => exact ⟨i + 1, by go_num, by omega, by first | rfl | trivial⟩
                      case measure => simp [intOf]; omega
                  · obtain rfl : i = qs.length := by omega
                    have hB := HBB.out
                    go_wp2_with fail
                    refine (awake_any _).mono ?_
                    rintro e W9 ⟨rfl, hb9⟩
                    have hB9 := hB.trans (hb9.mono hB.size)
                    go_wp2_with fail
                    go_ret
                    exact ⟨rfl, hB9⟩
end Go.Proofs.Ytnejacogflkmmaa
