/- Parts of the proofs of this seat: Cl8, Both, RfBal, Alike. Each part says what it proves; no condition beyond those stated there. -/
import Derived.Test.YtehlbomkldnalaaGreatQ10
import Derived.Test.YtehlbomkldnalaaGreatQ14
import Derived.Test.YtehlbomkldnalaaGreatQ17
import Derived.Test.YtehlbomkldnalaaGreatQ23
import Derived.Test.YtehlbomkldnalaaGreatQ24
import Derived.Test.YtehlbomkldnalaaGreatQ28

/- A call of both stores: Trace. -/
namespace Go.Proofs.YtehlbomkldnalaaGreat
open Go Go.RowKit
theorem chain_ex {s : SS} (hi : Inv s) : ∀ (m : Nat) (k u : Int), k.toNat ≤ m → look s.parent k = some u → ∃ l, Chain s k l
 | 0, k, u, hm, h => by have := (hi.pa k u h).1.1; omega
 | m + 1, k, u, hm, h => by
  obtain ⟨h1, h2⟩ := hi.pa k u h
  by_cases hu : u = 0
  ·subst hu
   exact ⟨_, .here h⟩
  ·rcases h2 with h2 | ⟨h3, h4, h5⟩
   ·exact absurd h2 hu
   ·cases hq : look s.parent u with
    | none => rw [hq] at h5; cases h5
    | some q =>
     obtain ⟨l, hl⟩ := chain_ex hi m u q (by omega) hq
     exact ⟨_, .up h hu hl⟩
theorem traces_any (p : Fp) (s : SS) (id : Int) (w : World) (hX : StA w p s) (hI : Inv s) (hF : Few s) {L : List Int} {E : Int} (h : (look s.parent id = none ∧ L = [] ∧ E = 5) ∨ (Chain s id L ∧ E = 0)) :
  Calls Tryz.prog 34 #[.pointer (some ⟨p.g, 0, none⟩), id] w fun e w' => ∃ A c, e = .returned (.tuple #[.slice A L.length c, E]) ∧ Slc intEnc 1 w' w'.heap.size A L ∧ Below w.heap.size w w' := by
 rcases h with ⟨h1, rfl, rfl⟩ | ⟨h1, rfl⟩
 ·exact (trace_none p s id w hX h1).mono fun e w' ⟨h2, h3⟩ => ⟨none, 0, h2, Slc.nil_, by rw [← h3]; exact Below.refl _ _⟩
 ·exact trace_any p s id L w hX hI hF h1
theorem rtraces_any (v : RV) (r : RS) (s : SS) (P : Nat → Prop) (id : Int) (w : World) (h : RAt w P v r) (hR : Rel r s) (hI : Inv s) (hF : Few s) {L : List Int} {E : Int} (ho : (look s.parent id = none ∧ L = [] ∧ E = 5) ∨ (Chain s id L ∧ E = 0)) :
  Calls Tryz.prog 35 #[.agg ↑v, id] w fun e w' => ∃ A c, e = .returned (.tuple #[.slice A L.length c, E]) ∧ Slc intEnc 1 w' w'.heap.size A L ∧ Below w.heap.size w w' := by
 rcases ho with ⟨h1, rfl, rfl⟩ | ⟨h1, rfl⟩
 ·exact (rtrace_none v r s P id w h hR hI hF h1).mono fun e w' ⟨h2, h3⟩ => ⟨none, 0, h2, Slc.nil_, h3⟩
 ·exact rtrace_any v r s P id L w h hR hI hF h1
theorem trace_ex {s : SS} (hi : Inv s) (hF : Few s) (id : Int) : ∃ (L : List Int) (E : Int), ((look s.parent id = none ∧ L = [] ∧ E = 5) ∨ (Chain s id L ∧ E = 0)) ∧ L.length ≤ 1000000 := by
 cases h : look s.parent id with
 | none => exact ⟨[], 5, .inl ⟨rfl, rfl, rfl⟩, Nat.zero_le _⟩
 | some u =>
  obtain ⟨l, hl⟩ := chain_ex hi id.toNat id u (Nat.le_refl _) h
  exact ⟨l, 0, .inr ⟨hl, rfl⟩, Nat.le_trans (Chain.len hi hl) hF.pa⟩
set_option maxRecDepth 100000 in
set_option maxHeartbeats 4000000 in
theorem call8_any (p : Fp) (s : SS) (P : Nat → Prop) (v : RV) (r : RS) (x : CallV) (fs : List Pt) (w : World) (hX : StA w p s) (hI : Inv s) (hF : Room s 50) (h : RAt w P v r) (hR : Rel r s) (hP : ∀ k, P k → k < w.heap.size) (hPp : ∀ k, p.has k → P k) (hn : x.n = fs.length) (hk : kd x ≠ 0 ∧ kd x ≠ 1 ∧ kd x ≠ 2 ∧ kd x ≠ 3 ∧ kd x ≠ 4 ∧ kd x ≠ 5 ∧ kd x ≠ 6 ∧ kd x ≠ 7) :
  Calls Tryz.prog 9 #[.pointer (some ⟨p.g, 0, none⟩), .agg ↑v, .agg ↑x] w (ClPost p (callF s x fs) P w) := by
 have HC : Hid (callF s x fs = s) := by show _ = _; obtain ⟨h0, h1, h2, h3, h4, h5, h6, h7⟩ := hk; unfold callF doF; rw [if_neg h1, if_neg h0, if_neg h1, if_neg h2, if_neg h3, if_neg h4, if_neg h5, if_neg h6, if_neg h7]
 have HI := hide hI
 have HF := hide hF
 have HR := hide hR
 have HN := hide hn
 clear hn
 obtain ⟨hrb, hcb, hob, hal, hsz⟩ := box3 w 38 47 38 ↑v ↑x ↑zrA
 go_enter Tryz.func9, Tryz.ntmps9
 go_upto_region 1 with fail
 generalize ((w.alloc (.cells ↑v 38)).alloc (.cells ↑x 47)).alloc (.cells ↑zrA 38) = Wb at *
 have y0 := hcb.cell_ 0 rfl
 have HX := hide (hX.below hal)
 have HH := hide (h.box hal)
 have HP2 : Hid (∀ k, PB P w.heap.size Wb.heap.size k → k < Wb.heap.size) := PB.lt hP hal.size
 have HSZ := hide hsz
 have HW := hide hal
 have HRB := hide hrb
 have HCB := hide hcb
 have HOB := hide hob
 have HPS := hide hPp
 have HPL := hide hP
 clear hX hI hF h hR hP hPp hrb hcb hob hal hsz
 go_upto_region 2 with fail
 obtain ⟨L, E, hLE, hll⟩ := trace_ex HI.out HF.out.few x.cid
 have HLE := hide hLE
 obtain ⟨k, hkk⟩ := nm_ ((IntKind.u64.wrap x.kind).tmod 9)
 obtain ⟨h0, h1, h2, h3, h4, h5, h6, h7⟩ := hk
 unfold kd at h0 h1 h2 h3 h4 h5 h6 h7
 rw [hkk] at h0 h1 h2 h3 h4 h5 h6 h7 ⊢
 clear hkk y0 hLE
 have hrb := HRB.out
 have hcb := HCB.out
 obtain ⟨c0, c1, c2, c3, c4, c5, c6, c7, c8⟩ := hrb.all9
 have y1 := hcb.cell_ 1 rfl
 have y2 := hcb.cell_ 2 rfl
 have y3 := hcb.cell_ 3 rfl
 have y4 := hcb.cell_ 4 rfl
 have y5 := hcb.cell_ 5 rfl
 have y6 := hcb.cell_ 6 rfl
 have y7 := hcb.cell_ 7 rfl
 have y8 := hcb.cell_ 8 (v := .slice x.A fs.length x.c) (by rw [← HN.out]; rfl)
 have y9 := hcb.cell_ 9 rfl
 have y10 := hcb.cell_ 10 rfl
 have y11 := hcb.cell_ 11 rfl
 have y12 := hcb.cell_ 12 rfl
 have y13 := hcb.cell_ 13 rfl
 have y14 := hcb.cell_ 14 rfl
 have y15 := hcb.cell_ 15 rfl
 have y16 := hcb.cell_ 16 rfl
 clear hrb hcb
 go_wp2_with fail
 refine (traces_any p s x.cid Wb HX.out HI.out HF.out.few HLE.out).mono ?_
 clear h0 h1 h2 h3 h4 h5 h6 h7
 rintro e W1 ⟨A1, k1, rfl, hL1, hb1⟩
 clear c0 c1 c2 c3 c4 c5 c6 c7 c8 y1 y2 y3 y4 y5 y6 y7 y8 y9 y10 y11 y12 y13 y14 y15 y16
 have HB1 := hide (HW.out.trans (hb1.mono HW.out.size))
 have HX1 := hide (HX.out.below hb1)
 have HA1 := hide (HH.out.below hb1)
 have HRB1 := hide (HRB.out.below hb1 HRB.out.lt)
 have HCB1 := hide (HCB.out.below hb1 HCB.out.lt)
 have HOB1 := hide (HOB.out.below hb1 HOB.out.lt)
 have HP3 : Hid (∀ k, PB P w.heap.size Wb.heap.size k → k < W1.heap.size) := fun k hk => Nat.lt_of_lt_of_le (HP2.out k hk) hb1.size
 have hrb := HRB1.out
 have hcb := HCB1.out
 obtain ⟨c0, c1, c2, c3, c4, c5, c6, c7, c8⟩ := hrb.all9
 have y1 := hcb.cell_ 1 rfl
 have y2 := hcb.cell_ 2 rfl
 have y3 := hcb.cell_ 3 rfl
 have y4 := hcb.cell_ 4 rfl
 have y5 := hcb.cell_ 5 rfl
 have y6 := hcb.cell_ 6 rfl
 have y7 := hcb.cell_ 7 rfl
 have y8 := hcb.cell_ 8 (v := .slice x.A fs.length x.c) (by rw [← HN.out]; rfl)
 have y9 := hcb.cell_ 9 rfl
 have y10 := hcb.cell_ 10 rfl
 have y11 := hcb.cell_ 11 rfl
 have y12 := hcb.cell_ 12 rfl
 have y13 := hcb.cell_ 13 rfl
 have y14 := hcb.cell_ 14 rfl
 have y15 := hcb.cell_ 15 rfl
 have y16 := hcb.cell_ 16 rfl
 clear hrb hcb
 clear hb1
 go_wp2_with fail
 refine (rtraces_any v r s _ x.cid W1 HA1.out HR.out HI.out HF.out.few HLE.out).mono ?_
 rintro e W2 ⟨A2, k2, rfl, hL2, hb2⟩
 clear c0 c1 c2 c3 c4 c5 c6 c7 c8 y1 y2 y3 y4 y5 y6 y7 y8 y9 y10 y11 y12 y13 y14 y15 y16
 have HL1 := hide (Slc.on hL1 hb2)
 have HL2 := hide hL2
 have HB2 := hide (HB1.out.trans (hb2.mono HB1.out.size))
 have HX2 := hide (HX1.out.below hb2)
 have HA2 := hide (HA1.out.below hb2)
 have HRB2 := hide (HRB1.out.below hb2 HRB1.out.lt)
 have HO2 := hide (HOB1.out.below hb2 HOB1.out.lt)
 clear hb2
 clear hL1 hL2
 go_upto_region 32 with fail
 refine wp_region_callG (args := #[.slice A1 L.length k1, .slice A2 L.length k2]) (t := 38) (old := ↑zrA) (cells := ↑v) (fun _ => False) 10 7 8 9 [0, 1, 2, 3, 4, 5, 6] (.bool true) (.bool true) (fun w0 => Slc intEnc 1 w0 w0.heap.size A1 L ∧ Slc intEnc 1 w0 w0.heap.size A2 L) (fun w0 => True) (by kernel_rfl) (by kernel_rfl) (by kernel_rfl) (by kernel_rfl) (by decide) (by decide) (by decide) (fun h => h) ⟨HL1.out, HL2.out⟩ (fun w0 w1 hb h => ⟨Slc.on h.1 hb, Slc.on h.2 hb⟩) (fun w0 w1 hb h => trivial) (fun w0 w1 cs hb hc h => trivial) HO2.out rfl rfl rfl rfl rfl rfl rfl rfl rfl rfl (fun _ _ => rfl) (by kernel_rfl) rfl (by simp [Value.oneCell']) ?_
 apply Exists.intro
 refine ⟨fun W3 hc => ?_, ?_⟩
 ·have hx1 := HRB2.out.chg hc (by rintro (h | h); exact h; omega)
  obtain ⟨y_c0, y_c1, y_c2, y_c3, y_c4, y_c5, y_c6, y_c7, y_c8⟩ := hx1.sin9
  clear hx1
  dsimp only [pick, List.filterMap, List.getElem?_cons_succ, List.getElem?_cons_zero]
  repeat (go_big_quiet_step (fail))
  exact wpQuiet_nil rfl
 refine ⟨by simp [Act.eval], rfl, fun w1 hc1 hX1 => (sameInts_any A1 k1 L A2 k2 L w1 hX1.1 hX1.2 hll).mono fun e w3 h => ⟨by rw [h.1, eqL_same], trivial, .of_below h.2⟩, fun w1 => ?_, rfl, rfl, fun w9 hc9 _ hs9 => ?_⟩
 ·simp [execOp, Act.eval, Act.put, asBool]
 dsimp only [Act.put]
 simp only [List.setIfInBounds_toArray, List.set_cons_succ, List.set_cons_zero, List.drop_succ_cons, List.drop_zero]
 obtain ⟨v2, rfl⟩ := is_ v
 obtain ⟨c0, c1, c2, c3, c4, c5, c6, c7, c8⟩ := hs9.all9
 clear hs9
 go_wp2_with fail
 refine bodyPost_ret (v := .tuple #[.agg ↑v2, .bool true]) (by simp [results, Tryz.results9, go_sem, c0, c1, c2, c3, c4, c5, c6, c7, c8]) rfl ?_
 have hg9 : Chg (fun k => k = w.heap.size + 2) W2 w9 := hc9.mono fun k _ hk => by rcases hk with h | h; exact h.elim; exact h
 have hcw : Below w.heap.size w w9 := (HB2.out).trans (hg9.below1 HB2.out.size (by omega))
 refine ⟨p, v2, r, rfl, by rw [HC.out]; exact .mk1 (HX2.out.chg1 hg9 HO2.out (by decide) (by decide)) (.of_below hcw), ?_, by rw [HC.out]; exact HR.out⟩
 exact (HA2.out.chg (hg9.mono fun k _ hk => by subst hk; exact .inr ⟨by omega, by have := HSZ.out; omega⟩)).less fun k hk => by rcases hk with h | h; exact .inl h; exact .inl (HPS.out k h)
end Go.Proofs.YtehlbomkldnalaaGreat

/- A call of both stores: every kind. -/
namespace Go.Proofs.YtehlbomkldnalaaGreat
open Go Go.RowKit
theorem call_any (p : Fp) (s : SS) (P : Nat → Prop) (v : RV) (r : RS) (x : CallV) (fs : List Pt) (w : World) (hX : StA w p s) (hI : Inv s) (hF : Room s 50) (h : RAt w P v r) (hR : Rel r s) (hP : ∀ k, P k → k < w.heap.size) (hPp : ∀ k, p.has k → P k) (hn : x.n = fs.length) (hS : Slc Pt.enc 2 w w.heap.size x.A fs) (hO : Offs P x.A fs) (hfl : fs.length ≤ 100000) :
  Calls Tryz.prog 9 #[.pointer (some ⟨p.g, 0, none⟩), .agg ↑v, .agg ↑x] w (ClPost p (callF s x fs) P w) := by
 by_cases h0 : kd x = 0
 ·exact call0_any p s P v r x fs w hX hI hF h hR hP hPp hn hS hO hfl h0
 by_cases h1 : kd x = 1
 ·exact call1_any p s P v r x fs w hX hI hF h hR hP hPp hn h1
 by_cases h2 : kd x = 2
 ·exact call2_any p s P v r x fs w hX hI hF h hR hP hPp hn h2
 by_cases h3 : kd x = 3
 ·exact call3_any p s P v r x fs w hX hI hF h hR hP hPp hn h3
 by_cases h4 : kd x = 4
 ·exact call4_any p s P v r x fs w hX hI hF h hR hP hPp hn h4
 by_cases h5 : kd x = 5
 ·exact call5_any p s P v r x fs w hX hI hF h hR hP hPp hn h5
 by_cases h6 : kd x = 6
 ·exact call6_any p s P v r x fs w hX hI hF h hR hP hPp hn h6
 by_cases h7 : kd x = 7
 ·exact call7_any p s P v r x fs w hX hI hF h hR hP hPp hn h7
 ·exact call8_any p s P v r x fs w hX hI hF h hR hP hPp hn ⟨h0, h1, h2, h3, h4, h5, h6, h7⟩
theorem call_inv {s : SS} (h : Inv s) (x : CallV) (fs : List Pt) : Inv (callF s x fs) := by
 unfold callF
 split
 ·exact h
 ·exact (do_inv h x fs).1
theorem call_room {s : SS} {r : Nat} (h : Room s (r + 50)) (x : CallV) (fs : List Pt) : Room (callF s x fs) r := by
 unfold callF
 split
 ·exact h.less (by omega)
 ·exact do_room h x fs
end Go.Proofs.YtehlbomkldnalaaGreat

/- The reference's Balance: the walk. -/
namespace Go.Proofs.YtehlbomkldnalaaGreat
open Go Go.RowKit
theorem area_is (a b p : Int) (w : World) (hp : a * b = p) (h : 0 ≤ p ∧ p ≤ 1000000000) : Calls Tryz.prog 71 #[a, b] w fun e w' => e = .returned (.int .i64 p) ∧ Below w.heap.size w w' := by
 subst hp
 refine (area_any a b w h).mono ?_
 rintro e w' ⟨rfl, rfl⟩
 exact ⟨rfl, Below.refl _ _⟩
def areaR (h : RH) : Int := h.wi * h.le
theorem sumL_le {V : Type} {f : V → Int} {l : List V} (h : ∀ x ∈ l, 0 ≤ f x) (i : Nat) : 0 ≤ sumL f (l.take i) ∧ sumL f (l.take i) ≤ sumL f l := by
 have nn : ∀ m : List V, (∀ x ∈ m, 0 ≤ f x) → 0 ≤ sumL f m := by
  intro m
  induction m with
  | nil => intro _; exact Int.le_refl _
  | cons x m ih =>
   intro hm
   have := ih fun y hy => hm y (List.mem_cons_of_mem _ hy)
   have h2 := hm x (List.mem_cons_self ..)
   have e : sumL f (x :: m) = f x + sumL f m := by unfold sumL; simp
   omega
 have e : sumL f l = sumL f (l.take i) + sumL f (l.drop i) := by
  unfold sumL
  rw [← List.sum_append, ← List.map_append, List.take_append_drop]
 have h1 := nn (l.take i) fun x hx => h x (List.mem_of_mem_take hx)
 have h2 := nn (l.drop i) fun x hx => h x (List.mem_of_mem_drop hx)
 omega
set_option maxRecDepth 100000 in
set_option maxHeartbeats 8000000 in
theorem rbalance_any (v : RV) (r : RS) (s : SS) (P : Nat → Prop) (w : World) (h : RAt w P v r) (hR : Rel r s) (hI : Inv s) (hF : Few s) :
  Calls Tryz.prog 39 #[.agg ↑v] w fun e w' => e = .returned (.agg #[s.received, .int .i64 (stockF s), .int .i64 (freeF s), .int .i64 (usedF s), s.waste]) ∧ Below w.heap.size w w' := by
 have HLN := hide (hR.lens hI hF)
 have HR := hide hR
 have HI := hide hI
 have HAR := hide (areas_bd hI hF)
 have HH := hide h
 have HR0 : Hid (sumL areaR r.rolls = s.received) := hR.re
 have HS0 : Hid (sumL areaS r.items = stockF s) := by show _ = _; rw [hR.items hI]; exact stock_list hI
 have HF0 : Hid (sumL pA r.pieces = freeF s) := by show _ = _; rw [hR.pieces hI]; exact free_list hI
 have HU0 : Hid (sumL pU r.pieces = usedF s) := by show _ = _; rw [hR.pieces hI]; exact used_list hI
 have HRB : Hid (∀ x ∈ r.rolls, 0 ≤ areaR x ∧ areaR x ≤ 900000) := fun x hx => by
  obtain ⟨h1, h2⟩ := hR.bd x hx
  exact mul_le_mul0 (b := 150) (e := 6000) (by omega) h1.2 (by omega) h2.2
 have HSB : Hid (∀ x ∈ r.items, 0 ≤ areaS x ∧ areaS x ≤ 900000) := fun x hx => item_area hI ((hR.it.m x).1 hx)
 have HPB : Hid (∀ x ∈ r.pieces, (0 ≤ x.width * x.length ∧ x.width * x.length ≤ 900000) ∧ 0 ≤ pA x ∧ 0 ≤ pU x) := fun x hx => by
  have h1 := piece_area hI ((hR.pc.m x).1 hx)
  have h2 := piece_parts hI (x := x) (by rw [← hR.pieces hI]; exact hx)
  exact ⟨h1, h2.1.1, h2.2.1⟩
 obtain ⟨hb, hr, hbal, hal, hsz⟩ := box3 w 38 60 60 ↑v #[.int .i64 0, .int .i64 0, .int .i64 0, .int .i64 0, .int .i64 0] #[.int .i64 0, .int .i64 0, .int .i64 0, .int .i64 0, .int .i64 0]
 have HW := hide hal
 clear hR hI hF h
 go_enter Tryz.func39, Tryz.ntmps39
 go_upto_region 2 with fail
 generalize ((w.alloc (.cells ↑v 38)).alloc (.cells #[.int .i64 0, .int .i64 0, .int .i64 0, .int .i64 0, .int .i64 0] 60)).alloc (.cells #[.int .i64 0, .int .i64 0, .int .i64 0, .int .i64 0, .int .i64 0] 60) = W0 at *
 have HB := hide hb
 have HRES := hide hr
 have HSZ := hide hsz
 clear hb hr hsz hal
 go_upto_region 3 with fail
 go_loopw [4] (fun z wr => ∃ (i : Nat) (x : Int), z = .int .i64 i ∧ i ≤ v.nr ∧ Hid (sumL areaR (r.rolls.take i) = x) ∧ Blk wr (w.heap.size + 2) 60 #[x, .int .i64 0, .int .i64 0, .int .i64 0, .int .i64 0] ∧ Below (w.heap.size + 2) W0 wr) (fun z _ => v.nr - (intOf z).toNat)
 case atStart => exact ⟨0, 0, rfl, Nat.zero_le _, rfl, hbal, Below.refl _ _⟩
 case round =>
  clear hbal
  obtain ⟨W, rfl⟩ := is_ wr
  obtain ⟨i, x, rfl, hi, HX, hbal, hB⟩ := hrel
  have hbx := HB.out.below hB (by omega)
  have c5 := hbx.cell_ 5 (v := .slice v.Ar v.nr v.cr) rfl
  clear hbx
  have hnl : v.nr ≤ 1000000 := by rw [HH.out.nr]; exact HLN.out.2.2.2.1
  by_cases hlt : i < v.nr
  ·obtain ⟨y, hy⟩ : ∃ x, r.rolls[i]? = some x := ⟨_, List.getElem?_eq_getElem (by rw [← HH.out.nr]; exact hlt)⟩
   have HBW : Hid (Below w.heap.size w W) := HW.out.trans (hB.mono (by omega))
   obtain ⟨b1, o1, hA1, _, _, _, _, _, _, d5, d6, _⟩ := rh_at (Slc.on HH.out.rolls HBW.out) hy
   have hii : (i : Int) < (v.nr : Int) := by omega
   have ei := wsuc i (by omega)
   obtain ⟨p, hp⟩ := nm_ (y.wi * y.le)
   have HPP := hide hp
   have hpb := HRB.out y (List.mem_of_getElem? hy)
   have hsum := sumL_take areaR hy
   rw [HX.out, show areaR y = p from hp] at hsum
   have hbd := sumL_le (fun x hx => (HRB.out x hx).1) i (f := areaR)
   have hbd2 := sumL_le (fun x hx => (HRB.out x hx).1) (i + 1) (f := areaR)
   rw [HX.out, HR0.out] at hbd
   rw [hsum, HR0.out] at hbd2
   have hpb2 : 0 ≤ p ∧ p ≤ 1000000000 := by have : areaR y = p := hp; omega
   obtain ⟨x2, hx2⟩ := nm_ (x + p)
   have HX2 : Hid (sumL areaR (r.rolls.take (i + 1)) = x2) := by show _ = _; rw [hsum, hx2]
   have e1 : IntKind.i64.wrap (x + p) = x2 := by rw [← hx2]; exact IntWalk.i64_in _ (by have := HAR.out; omega)
   rw [hA1] at c5
   clear hy hA1 hp hpb hsum hbd hbd2 hx2
   have z0 := hbal.cell_ 0 (v := x) rfl
   have z1 := hbal.cell_ 1 (v := .int .i64 0) rfl
   have z2 := hbal.cell_ 2 (v := .int .i64 0) rfl
   have z3 := hbal.cell_ 3 (v := .int .i64 0) rfl
   clear z1 z2 z3
   go_wp2_with fail
   refine wp_region_qt 17 (by kernel_rfl) (by kernel_rfl) ?_
   simp only [List.take_succ_cons, List.take_zero, List.drop_succ_cons, List.drop_zero]
   have y_c5 := Since.cell c5
   obtain ⟨y_d5, y_d6⟩ := Since.c2 d5 d6
   have y_z0 := Since.cell z0
   repeat (go_big_quiet_step ((go_at_call 71; exact Since.calls (area_is _ _ p _ HPP.out hpb2))))
   refine wpQuiet_nil ?_
   rintro W ⟨⟨_, hb⟩, rfl⟩
   try dsimp only at hb ⊢
   replace c5 := sat y_c5 hb
   replace d5 := sat y_d5 hb
   replace d6 := sat y_d6 hb
   replace z0 := sat y_z0 hb
   clear y_c5 y_d5 y_d6 y_z0
   replace hbal := Blk.below hbal hb (Blk.lt hbal)
   replace hB := Below.trans hB (Below.mono hb (by have := Below.size hB; have := HSZ.out; omega))
   clear hb
   clear c5 d5 d6 z0
   go_wp2_with (refine wpList_store_at rfl 3 _ _ rfl (.int .i64 x2) hbal rfl rfl (by kernel_rfl) rfl (by simp) rfl ?_; intro W5 hb5 hc5)
   have hB5 := hB.trans (hc5.below1 (B := w.heap.size + 2) (by have := hbal.lt; omega) (Nat.le_refl _))
   clear hbal hc5 hB e1
   go_roundw
   case rel => exact ⟨i + 1, x2, by go_num, by omega, HX2, hb5, hB5⟩
   case measure => simp [intOf]; omega
  ·obtain rfl : i = v.nr := by omega
   have HXR : Hid (x = s.received) := by show _ = _; rw [← HX.out, List.take_of_length_le (by rw [HH.out.nr]; exact Nat.le_refl _), HR0.out]
   clear HX
   have HBK := hide hB
   go_upto_region 7 with fail
   clear c5 hB
   have hB := HBK.out
   go_loopw [5] (fun z wr => ∃ (i : Nat) (y : Int), z = .int .i64 i ∧ i ≤ v.ni ∧ Hid (sumL areaS (r.items.take i) = y) ∧ Blk wr (w.heap.size + 2) 60 #[x, y, .int .i64 0, .int .i64 0, .int .i64 0] ∧ Below (w.heap.size + 2) W0 wr) (fun z _ => v.ni - (intOf z).toNat)
   case atStart => exact ⟨0, 0, rfl, Nat.zero_le _, rfl, hbal, hB⟩
   case round =>
    clear hbal hB HBK
    obtain ⟨W, rfl⟩ := is_ wr
    obtain ⟨i, y, rfl, hi, HY, hbal, hB⟩ := hrel
    have hbx := HB.out.below hB (by omega)
    have c6 := hbx.cell_ 6 (v := .slice v.Ai v.ni v.ci) rfl
    clear hbx
    have hnl2 : v.ni ≤ 1000000 := by rw [HH.out.ni]; exact HLN.out.1
    by_cases hlt : i < v.ni
    ·obtain ⟨q, hy⟩ : ∃ x, r.items[i]? = some x := ⟨_, List.getElem?_eq_getElem (by rw [← HH.out.ni]; exact hlt)⟩
     have HBW : Hid (Below w.heap.size w W) := HW.out.trans (hB.mono (by omega))
     obtain ⟨hs, hsl, hrs⟩ := HH.out.items
     obtain ⟨A', c', hh, _⟩ := hrs.at_ hy
     obtain ⟨b1, o1, hA1, _, _, _, _, _, _, _, d6, d7, _⟩ := sh_at (Slc.on hsl HBW.out) hh
     have hii : (i : Int) < (v.ni : Int) := by omega
     have ei := wsuc i (by omega)
     obtain ⟨p, hp⟩ := nm_ (q.width * q.length)
     have HPP := hide hp
     have hpb := HSB.out q (List.mem_of_getElem? hy)
     have hsum := sumL_take areaS hy
     rw [HY.out, show areaS q = p from hp] at hsum
     have hbd := sumL_le (fun x hx => (HSB.out x hx).1) i (f := areaS)
     have hbd2 := sumL_le (fun x hx => (HSB.out x hx).1) (i + 1) (f := areaS)
     rw [HY.out, HS0.out] at hbd
     rw [hsum, HS0.out] at hbd2
     have hpb2 : 0 ≤ p ∧ p ≤ 1000000000 := by have : areaS q = p := hp; omega
     obtain ⟨x2, hx2⟩ := nm_ (y + p)
     have HX2 : Hid (sumL areaS (r.items.take (i + 1)) = x2) := by show _ = _; rw [hsum, hx2]
     have e1 : IntKind.i64.wrap (y + p) = x2 := by rw [← hx2]; exact IntWalk.i64_in _ (by have := HAR.out; omega)
     rw [hA1] at c6
     clear hy hA1 hp hpb hsum hbd hbd2 hx2 hsl hrs hh
     have z0 := hbal.cell_ 0 (v := x) rfl
     have z1 := hbal.cell_ 1 (v := y) rfl
     have z2 := hbal.cell_ 2 (v := .int .i64 0) rfl
     have z3 := hbal.cell_ 3 (v := .int .i64 0) rfl
     clear z0 z2 z3
     go_wp2_with fail
     refine wp_region_qt 17 (by kernel_rfl) (by kernel_rfl) ?_
     simp only [List.take_succ_cons, List.take_zero, List.drop_succ_cons, List.drop_zero]
     have y_c6 := Since.cell c6
     obtain ⟨y_d6, y_d7⟩ := Since.c2 d6 d7
     have y_z1 := Since.cell z1
     repeat (go_big_quiet_step ((go_at_call 71; exact Since.calls (area_is _ _ p _ HPP.out hpb2))))
     refine wpQuiet_nil ?_
     rintro W ⟨⟨_, hb⟩, rfl⟩
     try dsimp only at hb ⊢
     replace c6 := sat y_c6 hb
     replace d6 := sat y_d6 hb
     replace d7 := sat y_d7 hb
     replace z1 := sat y_z1 hb
     clear y_c6 y_d6 y_d7 y_z1
     replace hbal := Blk.below hbal hb (Blk.lt hbal)
     replace hB := Below.trans hB (Below.mono hb (by have := Below.size hB; have := HSZ.out; omega))
     clear hb
     clear c6 d6 d7 z1
     go_wp2_with (refine wpList_store_at rfl 3 _ _ rfl (.int .i64 x2) hbal rfl rfl (by kernel_rfl) rfl (by simp) rfl ?_; intro W5 hb5 hc5)
     have hB5 := hB.trans (hc5.below1 (B := w.heap.size + 2) (by have := hbal.lt; omega) (Nat.le_refl _))
     clear hbal hc5 hB e1
     go_roundw
     case rel => exact ⟨i + 1, x2, by go_num, by omega, HX2, hb5, hB5⟩
     case measure => simp [intOf]; omega
    ·obtain rfl : i = v.ni := by omega
     have HYR : Hid (y = stockF s) := by show _ = _; rw [← HY.out, List.take_of_length_le (by rw [HH.out.ni]; exact Nat.le_refl _), HS0.out]
     have HBK := hide hB
     clear HY
     go_upto_region 11 with fail
     clear c6 hB
     have hB := HBK.out
     go_loopw [6] (fun z wr => ∃ (i : Nat) (a u : Int), z = .int .i64 i ∧ i ≤ v.np ∧ Hid (sumL pA (r.pieces.take i) = a ∧ sumL pU (r.pieces.take i) = u) ∧ Blk wr (w.heap.size + 2) 60 #[x, y, a, u, .int .i64 0] ∧ Below (w.heap.size + 2) W0 wr) (fun z _ => v.np - (intOf z).toNat)
     case atStart => exact ⟨0, 0, 0, rfl, Nat.zero_le _, ⟨rfl, rfl⟩, hbal, hB⟩
     case round =>
      clear hbal hB HBK
      obtain ⟨W, rfl⟩ := is_ wr
      obtain ⟨i, a, u, rfl, hi, HY, hbal, hB⟩ := hrel
      have hbx := HB.out.below hB (by omega)
      have c7 := hbx.cell_ 7 (v := .slice v.Ap v.np v.cp) rfl
      clear hbx
      have hnl3 : v.np ≤ 1000000 := by rw [HH.out.np]; exact HLN.out.2.1
      by_cases hlt : i < v.np
      ·obtain ⟨q, hy⟩ : ∃ x, r.pieces[i]? = some x := ⟨_, List.getElem?_eq_getElem (by rw [← HH.out.np]; exact hlt)⟩
       have HBW : Hid (Below w.heap.size w W) := HW.out.trans (hB.mono (by omega))
       obtain ⟨b1, o1, hA1, _, _, _, _, _, _, d5, d6, d7⟩ := pce_at (Slc.on HH.out.pieces HBW.out) hy
       have hii : (i : Int) < (v.np : Int) := by omega
       have ei := wsuc i (by omega)
       obtain ⟨p, hp⟩ := nm_ (q.width * q.length)
       have HPP := hide hp
       have hpb := HPB.out q (List.mem_of_getElem? hy)
       have HS1 : Hid (sumL pA (r.pieces.take (i + 1)) = a + pA q ∧ sumL pU (r.pieces.take (i + 1)) = u + pU q) := ⟨by rw [sumL_take pA hy, HY.out.1], by rw [sumL_take pU hy, HY.out.2]⟩
       have hbd := sumL_le (fun x hx => (HPB.out x hx).2.1) i (f := pA)
       have hbd2 := sumL_le (fun x hx => (HPB.out x hx).2.1) (i + 1) (f := pA)
       have hbu := sumL_le (fun x hx => (HPB.out x hx).2.2) i (f := pU)
       have hbu2 := sumL_le (fun x hx => (HPB.out x hx).2.2) (i + 1) (f := pU)
       rw [HY.out.1, HF0.out] at hbd
       rw [HY.out.2, HU0.out] at hbu
       rw [HS1.out.1, HF0.out] at hbd2
       rw [HS1.out.2, HU0.out] at hbu2
       have hpb2 : 0 ≤ p ∧ p ≤ 1000000000 := by rw [hp] at hpb; omega
       have hae : q.use = 0 → pA q = p ∧ pU q = 0 := fun h => by unfold pA pU; rw [if_pos h, if_pos h]; exact ⟨hp, rfl⟩
       have hue : ¬ q.use = 0 → pA q = 0 ∧ pU q = p := fun h => by unfold pA pU; rw [if_neg h, if_neg h]; exact ⟨rfl, hp⟩
       have HAE := hide hae
       have HUE := hide hue
       have HBD := hide (And.intro hbd2 hbu2)
       rw [hA1] at c7
       clear hy hA1 hp hpb hbd hbu hbd2 hbu2 hae hue
       go_wp2_with fail
       refine wp_region_qt 13 (by kernel_rfl) (by kernel_rfl) ?_
       simp only [List.take_succ_cons, List.take_zero, List.drop_succ_cons, List.drop_zero]
       have y_c7 := Since.cell c7
       obtain ⟨y_d5, y_d6, y_d7⟩ := Since.c3 d5 d6 d7
       repeat (go_big_quiet_step ((go_at_call 71; exact Since.calls (area_is _ _ p _ HPP.out hpb2))))
       refine wpQuiet_nil ?_
       rintro W ⟨⟨_, hb⟩, rfl⟩
       try dsimp only at hb ⊢
       replace c7 := sat y_c7 hb
       replace d5 := sat y_d5 hb
       replace d6 := sat y_d6 hb
       replace d7 := sat y_d7 hb
       clear y_c7 y_d5 y_d6 y_d7
       replace hbal := Blk.below hbal hb (Blk.lt hbal)
       replace hB := Below.trans hB (Below.mono hb (by have := Below.size hB; have := HSZ.out; omega))
       clear hb
       clear d5 d6
       by_cases hu : q.use = 0
       ·obtain ⟨x2, hx2⟩ := nm_ (a + p)
        have e1 : IntKind.i64.wrap (a + p) = x2 := by rw [← hx2]; exact IntWalk.i64_in _ (by have := HAR.out; have := HBD.out.1; have := (HAE.out hu).1; omega)
        have HY2 : Hid (sumL pA (r.pieces.take (i + 1)) = x2 ∧ sumL pU (r.pieces.take (i + 1)) = u) := ⟨by rw [HS1.out.1, (HAE.out hu).1, hx2], by rw [HS1.out.2, (HAE.out hu).2]; omega⟩
        clear hx2
        have z0 := hbal.cell_ 0 (v := x) rfl
        have z1 := hbal.cell_ 1 (v := y) rfl
        have z2 := hbal.cell_ 2 (v := a) rfl
        have z3 := hbal.cell_ 3 (v := u) rfl
        go_wp2_with (refine wpList_store_at rfl 3 _ _ rfl (.int .i64 x2) hbal rfl rfl (by kernel_rfl) rfl (by simp) rfl ?_; intro W5 hb5 hc5)
        have hB5 := hB.trans (hc5.below1 (B := w.heap.size + 2) (by have := hbal.lt; omega) (Nat.le_refl _))
        clear hbal hc5 hB e1 z0 z1 z2 z3 c7 d7
        go_roundw
        case rel => exact ⟨i + 1, x2, u, by go_num, by omega, HY2, hb5, hB5⟩
        case measure => simp [intOf]; omega
       ·obtain ⟨x2, hx2⟩ := nm_ (u + p)
        have e1 : IntKind.i64.wrap (u + p) = x2 := by rw [← hx2]; exact IntWalk.i64_in _ (by have := HAR.out; have := HBD.out.2; have := (HUE.out hu).2; omega)
        have HY2 : Hid (sumL pA (r.pieces.take (i + 1)) = a ∧ sumL pU (r.pieces.take (i + 1)) = x2) := ⟨by rw [HS1.out.1, (HUE.out hu).1]; omega, by rw [HS1.out.2, (HUE.out hu).2, hx2]⟩
        clear hx2
        have z0 := hbal.cell_ 0 (v := x) rfl
        have z1 := hbal.cell_ 1 (v := y) rfl
        have z2 := hbal.cell_ 2 (v := a) rfl
        have z3 := hbal.cell_ 3 (v := u) rfl
        go_wp2_with (refine wpList_store_at rfl 3 _ _ rfl (.int .i64 x2) hbal rfl rfl (by kernel_rfl) rfl (by simp) rfl ?_; intro W5 hb5 hc5)
        have hB5 := hB.trans (hc5.below1 (B := w.heap.size + 2) (by have := hbal.lt; omega) (Nat.le_refl _))
        clear hbal hc5 hB e1 z0 z1 z2 z3 c7 d7
        go_roundw
        case rel => exact ⟨i + 1, a, x2, by go_num, by omega, HY2, hb5, hB5⟩
        case measure => simp [intOf]; omega
      ·obtain rfl : i = v.np := by omega
       have HZR : Hid (a = freeF s ∧ u = usedF s) := ⟨by rw [← HY.out.1, List.take_of_length_le (by rw [HH.out.np]; exact Nat.le_refl _), HF0.out], by rw [← HY.out.2, List.take_of_length_le (by rw [HH.out.np]; exact Nat.le_refl _), HU0.out]⟩
       obtain ⟨m1, hm1⟩ := nm_ (x - y)
       obtain ⟨m2, hm2⟩ := nm_ (m1 - a)
       obtain ⟨m3, hm3⟩ := nm_ (m2 - u)
       have e1 : IntKind.i64.wrap (x - y) = m1 := by rw [← hm1]; exact IntWalk.i64_in _ (by have := HAR.out; have := HXR.out; have := HYR.out; omega)
       have e2 : IntKind.i64.wrap (m1 - a) = m2 := by rw [← hm2]; exact IntWalk.i64_in _ (by have := HAR.out; have := HXR.out; have := HYR.out; have := HZR.out; omega)
       have e3 : IntKind.i64.wrap (m2 - u) = m3 := by rw [← hm3]; exact IntWalk.i64_in _ (by have := HAR.out; have := HXR.out; have := HYR.out; have := HZR.out; omega)
       have HM : Hid (m3 = s.waste) := by have := HAR.out; have := HXR.out; have := HYR.out; have := HZR.out; show _ = _; omega
       have hr := HRES.out.below hB (by omega)
       clear hm1 hm2 hm3
       have z0 := hbal.cell_ 0 (v := x) rfl
       have z1 := hbal.cell_ 1 (v := y) rfl
       have z2 := hbal.cell_ 2 (v := a) rfl
       have z3 := hbal.cell_ 3 (v := u) rfl
       go_upto_region 18 with (refine wpList_store_at rfl 3 _ _ rfl (.int .i64 m3) hbal rfl rfl (by kernel_rfl) rfl (by simp) rfl ?_; intro W5 hb5 hc5)
       have hB5 := hB.trans (hc5.below1 (B := w.heap.size + 2) (by have := hbal.lt; omega) (Nat.le_refl _))
       replace hr := hr.chg1 hc5 (by omega)
       try dsimp only [Act.put]
       clear z0 z1 z2 z3 e1 e2 e3 hbal hB hc5 c7
       obtain ⟨z0, z1, z2, z3, z4⟩ := hb5.all5
       go_wp2_with (refine wpList_store_blk rfl 60 _ _ rfl #[x, y, a, u, m3] hr rfl rfl (by kernel_rfl) rfl (by simp [Value.oneCell']) ?_; intro W9 hr9 hc9; obtain ⟨q0, q1, q2, q3, q4⟩ := hr9.all5)
       have hB9 : Below w.heap.size w W9 := (HW.out.trans (hB5.mono (by omega))).trans (hc9.below1 (by have := hb5.lt; omega) (by omega))
       refine bodyPost_ret (v := .agg #[x, y, a, u, m3]) (by simp [results, Tryz.results39, go_sem, q0, q1, q2, q3, q4]) rfl ?_
       exact ⟨by rw [← HXR.out, ← HYR.out, ← HZR.out.1, ← HZR.out.2, ← HM.out], hB9⟩
end Go.Proofs.YtehlbomkldnalaaGreat

/- alike: both stores show the same: the walk. -/
namespace Go.Proofs.YtehlbomkldnalaaGreat
open Go Go.RowKit
set_option maxRecDepth 100000 in
set_option maxHeartbeats 4000000 in
theorem alike_any (p : Fp) (s : SS) (P : Nat → Prop) (v : RV) (r : RS) (w : World) (hX : StA w p s) (hI : Inv s) (hF : Few s) (h : RAt w P v r) (hR : Rel r s) :
  Calls Tryz.prog 10 #[.pointer (some ⟨p.g, 0, none⟩), .agg ↑v] w fun e w' => e = .returned (.bool true) ∧ Below w.heap.size w w' := by
 have HI := hide hI
 have HF := hide hF
 have HR := hide hR
 obtain ⟨hbx, hal, hsz⟩ := box1 w 38 ↑v
 go_enter Tryz.func10, Tryz.ntmps10
 go_upto_region 1 with fail
 generalize w.alloc (.cells ↑v 38) = W at *
 have HXP := hide (hX.below hal)
 have HA := hide (h.below hal)
 have HB9 := hide hal
 have HBB := hide hbx
 obtain ⟨ys, hys⟩ := nm_ (itemsL s)
 obtain ⟨ps, hps⟩ := nm_ (piecesL s)
 have HYS := hide hys
 have HPS := hide hps
 have HNI : Hid (v.ni = ys.length) := by show _ = _; rw [h.ni, hR.items hI, hys]
 have HNP : Hid (v.np = ps.length) := by show _ = _; rw [h.np, hR.pieces hI, hps]
 have hyl : ys.length ≤ 1000000 := by rw [← HNI.out, h.ni, hR.ilen hI]; exact hF.it
 have hpl : ps.length ≤ 1000000 := by rw [← HNP.out, h.np, hR.plen hI]; exact hF.pc
 have HYF : Hid (∀ y ∈ ys, y.faults.length ≤ 100000) := fun y hy => by
  have := (hI.it _ _ (((items_shows hI).m y).1 (by rw [hys]; exact hy))).2.n
  omega
 obtain ⟨hs2, hS2, hI2⟩ := HA.out.items
 have hPc := HA.out.pieces
 rw [hR.items hI, hys] at hI2
 rw [hR.pieces hI, hps] at hPc
 have HS2 := hide hS2
 have HI2 := hide hI2
 have HPC2 := hide hPc
 have HIC : Hid (∀ w1, StA w1 p s → Calls Tryz.prog 37 #[.pointer (some ⟨p.g, 0, none⟩)] w1 (ItemsPost ys w1)) := fun w1 h => by
  have := items_any p s w1 h HI.out HF.out
  rw [HYS.out] at this; exact this
 have HPC : Hid (∀ w1, StA w1 p s → Calls Tryz.prog 38 #[.pointer (some ⟨p.g, 0, none⟩)] w1 (PiecesPost ps w1)) := fun w1 h => by
  have := pieces_any p s w1 h HI.out HF.out
  rw [HPS.out] at this; exact this
 clear hX hI hF h hR hal hsz hbx hys hps hS2 hI2 hPc
 have eqb := eql_bal s.received (stockF s) (freeF s) (usedF s) s.waste
 refine wp_region_pairs (args1 := #[.pointer (some ⟨p.g, 0, none⟩)]) (args3 := #[.pointer (some ⟨p.g, 0, none⟩)]) 19 1 4 7 10 [0, 2, 3] [5, 6, 8, 9] [11, 12, 13, 14, 15, 16, 17, 18] (fun k => ([undef, undef, undef, undef, .bool true, .bool true, .pointer (some ⟨p.g, 0, none⟩), undef, .pointer (some ⟨w.heap.size, 7, none⟩), .slice v.Ap v.np v.cp, .bool true, .bool true, .bool true, .pointer (some ⟨p.g, 0, none⟩), .agg #[s.received, .int .i64 (stockF s), .int .i64 (freeF s), .int .i64 (usedF s), s.waste], .agg ↑v, .agg #[s.received, .int .i64 (stockF s), .int .i64 (freeF s), .int .i64 (usedF s), s.waste], .bool true, .bool true] : List Value)[k]?.getD undef)
  (fun u w' => ∃ A c hs, u = .slice A v.ni c ∧ Slc SH.enc 9 w' w'.heap.size A hs ∧ ShsIn w' hs ys) (fun u w' => ∃ A c, u = .slice A v.np c ∧ Slc Piece.enc 8 w' w'.heap.size A ps) (fun u => ∃ A c, u = .slice A v.ni c) (fun u => ∃ A c, u = .slice A v.np c) (fun u => #[u, .slice v.Ai v.ni v.ci]) (fun u => #[u, .slice v.Ap v.np v.cp])
  (by kernel_rfl) (by kernel_rfl) (by kernel_rfl) (by kernel_rfl) (by decide) (by decide) (by decide) (by decide) (by decide) (fun u w1 w2 hb ⟨A, c, hs2, h1, h2, h3⟩ => ⟨A, c, hs2, h1, Slc.on h2 hb, h3.below hb⟩) (fun u w1 w2 hb ⟨A, c, h1, h2⟩ => ⟨A, c, h1, Slc.on h2 hb⟩) (fun u w1 ⟨A, c, _, h1, _⟩ => ⟨A, c, h1⟩) (fun u w1 ⟨A, c, h1, _⟩ => ⟨A, c, h1⟩) ⟨_, none, 0, rfl⟩ ⟨_, none, 0, rfl⟩
  rfl rfl rfl rfl rfl rfl rfl rfl rfl rfl rfl rfl (fun _ _ => rfl) (fun _ _ => rfl) (fun _ _ => rfl) (fun _ _ => rfl) ?_
 apply Exists.intro
 refine ⟨fun W1 hc => ?_, ?_⟩
 ·have hbb1 := HBB.out.below hc HBB.out.lt
  obtain ⟨y_c0, y_c1, y_c2, y_c3, y_c4, y_c5, y_c6, y_c7, y_c8⟩ := hbb1.sin9
  clear hbb1
  dsimp only [pick, List.filterMap, List.getElem?_cons_succ, List.getElem?_cons_zero]
  repeat (go_big_quiet_step (fail))
  exact wpQuiet_nil rfl
 refine ⟨by simp [Act.eval], rfl, fun w1 hb1 => ?_, fun u1 ⟨A9, c9, hu1⟩ => ?_⟩
 ·refine (HIC.out w1 (HXP.out.below hb1)).mono ?_
  rintro e w2 ⟨A8, c8, hs8, rfl, hS8, hI8, hb8, _⟩
  exact ⟨_, rfl, ⟨A8, c8, hs8, by rw [HNI.out], hS8, hI8⟩, hb8⟩
 subst hu1
 refine ⟨rfl, by simp [Act.eval, Act.put], fun w1 hb1 ⟨A8, c8, hs8, he, hS8, hI8⟩ => ?_, ?_⟩
 ·injection he with he _ he2
  subst he he2
  rw [HNI.out]
  exact sameItems_rs A9 c9 v.Ai v.ci ys hs8 hs2 w1 hS8 hI8 (Slc.on HS2.out hb1) (HI2.out.below hb1) hyl HYF.out
 apply Exists.intro
 refine ⟨fun W1 hc => ?_, ?_⟩
 ·have hbb1 := HBB.out.below hc HBB.out.lt
  obtain ⟨y_c0, y_c1, y_c2, y_c3, y_c4, y_c5, y_c6, y_c7, y_c8⟩ := hbb1.sin9
  clear hbb1
  dsimp only [pick, List.filterMap, List.getElem?_cons_succ, List.getElem?_cons_zero, Act.put, Option.getD_some]
  simp only [List.setIfInBounds_toArray, List.set_cons_succ, List.set_cons_zero]
  repeat (go_big_quiet_step (fail))
  exact wpQuiet_nil rfl
 refine ⟨by kernel_rfl, by (repeat (first | exact trivial | refine ⟨_, _, rfl, rfl, by kernel_rfl, by kernel_rfl, ?_⟩)), by simp [Act.eval], rfl, fun w1 hb1 => ?_, fun u2 ⟨A7, c7, hu2⟩ => ?_⟩
 ·refine (HPC.out w1 (HXP.out.below hb1)).mono ?_
  rintro e w2 ⟨A8, c8, rfl, hS8, hb8, _⟩
  exact ⟨_, rfl, ⟨A8, c8, by rw [HNP.out], hS8⟩, hb8⟩
 subst hu2
 refine ⟨rfl, by simp [Act.eval, Act.put], fun w1 hb1 ⟨A8, c8, he, hS8⟩ => ?_, ?_⟩
 ·injection he with he _ he2
  subst he he2
  rw [HNP.out]
  exact samePieces_yes A7 c7 v.Ap v.cp ps w1 hS8 (Slc.on HPC2.out hb1) hpl
 apply Exists.intro
 refine ⟨fun W1 hc => ?_, ?_⟩
 ·have hbb1 := HBB.out.below hc HBB.out.lt
  obtain ⟨y_c0, y_c1, y_c2, y_c3, y_c4, y_c5, y_c6, y_c7, y_c8⟩ := hbb1.sin9
  have hX1 := HXP.out.below hc
  have hA1 := HA.out.below hc
  clear hbb1
  dsimp only [pick, List.filterMap, List.getElem?_cons_succ, List.getElem?_cons_zero, Act.put, Option.getD_some]
  simp only [List.setIfInBounds_toArray, List.set_cons_succ, List.set_cons_zero]
  repeat (go_big_quiet_step ((first | (go_at_call 14; exact Since.calls (balance_any p s _ (hX1.below (Since.h _)) HI.out HF.out)) | (go_at_call 39; exact Since.calls (rbalance_any v r s _ _ (hA1.below (Since.h _)) HR.out HI.out HF.out)))))
  exact wpQuiet_nil rfl
 refine ⟨by kernel_rfl, by (repeat (first | exact trivial | refine ⟨_, _, rfl, rfl, by kernel_rfl, by kernel_rfl, ?_⟩)), fun w8 hb8 => ?_⟩
 simp only [List.drop_succ_cons, List.drop_zero]
 have hB8 := HB9.out.trans (hb8.mono HB9.out.size)
 go_wp2_with fail
 go_ret
 exact ⟨rfl, hB8⟩
end Go.Proofs.YtehlbomkldnalaaGreat
