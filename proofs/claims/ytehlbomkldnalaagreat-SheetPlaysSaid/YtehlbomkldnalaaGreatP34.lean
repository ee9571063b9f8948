/- Parts of the proofs of this seat: Plays. Each part says what it proves; no condition beyond those stated there. -/
import Derived.Test.YtehlbomkldnalaaGreatP10
import Derived.Test.YtehlbomkldnalaaGreatP29
import Derived.Test.YtehlbomkldnalaaGreatP30
import Derived.Test.YtehlbomkldnalaaGreatP32
import Derived.Test.YtehlbomkldnalaaGreatP33

/- SheetPlays: the walk. -/
namespace Go.Proofs.YtehlbomkldnalaaGreat
open Go Go.RowKit
/-- what is known behind a call of both stores -/
def PlR (p : Fp) (s' : SS) (P : Nat → Prop) (B : Nat) (u y : Value) (PN : Nat → Prop) (w : World) : Prop :=
 y = .bool true ∧ ∃ (p' : Fp) (v' : RV) (r' : RS), u = .agg ↑v' ∧ StA w p' s' ∧ p'.g = p.g ∧ (∀ k, p'.has k → p.has k ∨ B ≤ k) ∧ (∀ k, P k → PN k) ∧ (∀ k, p'.has k → PN k) ∧ RAt w PN v' r' ∧ Rel r' s'
theorem PlR.below {p : Fp} {s' : SS} {P : Nat → Prop} {B : Nat} {u y : Value} {PN : Nat → Prop} {w w' : World} (h : PlR p s' P B u y PN w) (hb : Below w.heap.size w w') : PlR p s' P B u y PN w' := by
 obtain ⟨h0, p', v', r', h1, h2, h3, h4, h5, h6, h7, h8⟩ := h
 exact ⟨h0, p', v', r', h1, h2.below hb, h3, h4, h5, h6, h7.below hb, h8⟩
theorem PlR.grow {p : Fp} {s' : SS} {P : Nat → Prop} {B : Nat} {u y : Value} {PN : Nat → Prop} {w : World} (o : Obj) (h : PlR p s' P B u y PN w) : PlR p s' P B u y (fun k => PN k ∨ k = w.heap.size) (w.alloc o) := by
 have hb := (Below.refl w.heap.size w).alloc (Nat.le_refl _) o
 obtain ⟨h0, p', v', r', h1, h2, h3, h4, h5, h6, h7, h8⟩ := h
 exact ⟨h0, p', v', r', h1, h2.below hb, h3, h4, fun k hk => .inl (h5 k hk), fun k hk => .inl (h6 k hk), (h7.more (P' := fun k => PN k ∨ k = w.heap.size) fun k hk => by rcases hk with h | h; exact .inl h; exact .inr (by omega)).below hb, h8⟩
theorem PlR.chg {p : Fp} {s' : SS} {P : Nat → Prop} {B g : Nat} {cs : Array Value} {u y : Value} {PN : Nat → Prop} {w w' : World} (h : PlR p s' P B u y PN w) (hB : Blk w g 38 cs) (hg : PN g) (hc : Chg (fun k => k = g) w w') : PlR p s' P B u y PN w' := by
 obtain ⟨h0, p', v', r', h1, h2, h3, h4, h5, h6, h7, h8⟩ := h
 exact ⟨h0, p', v', r', h1, h2.chg1 hc hB (by decide) (by decide), h3, h4, h5, h6, h7.chg (hc.mono fun k _ hk => by subst hk; exact hg), h8⟩
/-- a call, met in the region -/
theorem plays_call (p : Fp) (s : SS) (P : Nat → Prop) (v : RV) (r : RS) (x : CallV) (fs : List Pt) (W w0 : World) (hX : StA w0 p s) (hI : Inv s) (hF : Room s 50) (h : RAt W P v r) (hR : Rel r s) (hP : ∀ k, P k → k < W.heap.size) (hPp : ∀ k, p.has k → P k) (hn : x.n = fs.length) (hS : Slc Pt.enc 2 W W.heap.size x.A fs) (hO : Offs P x.A fs) (hfl : fs.length ≤ 100000) (hc : Chg p.has W w0) :
  Calls Tryz.prog 9 #[.pointer (some ⟨p.g, 0, none⟩), .agg ↑v, .agg ↑x] w0 fun e w'' => ∃ u y PN, e = .returned (.tuple #[u, y]) ∧ PlR p (callF s x fs) P W.heap.size u y PN w'' ∧ (∀ k, W.heap.size ≤ k → k < w0.heap.size → PN k) ∧ Chg p.has w0 w'' := by
 have hA0 : RAt w0 (fun k => P k ∨ (W.heap.size ≤ k ∧ k < w0.heap.size)) v r := (h.more (P' := fun k => P k ∨ (W.heap.size ≤ k ∧ k < w0.heap.size)) fun k hk => by rcases hk with h | h; exact .inl h; exact .inr h.1).chg (hc.mono fun k _ hk => .inl (hPp k hk))
 have hfs : fs ≠ [] → ∀ ad, x.A = some ad → ad.block < W.heap.size := fun hne ad ha => by
  obtain ⟨z, hz⟩ := List.exists_mem_of_ne_nil _ hne
  obtain ⟨j, hj⟩ := List.getElem?_of_mem hz
  obtain ⟨b2, off2, hA2, hlt2, _⟩ := hS j z hj
  rw [ha] at hA2
  injection hA2 with hA2
  subst hA2
  exact hlt2
 have hlt : ∀ k, (P k ∨ (W.heap.size ≤ k ∧ k < w0.heap.size)) → k < w0.heap.size := fun k hk => by
  rcases hk with h | h
  ·exact Nat.lt_of_lt_of_le (hP k h) hc.size
  ·exact h.2
 refine (call_any p s _ v r x fs w0 hX hI hF hA0 hR hlt (fun k hk => .inl (hPp k hk)) hn (hS.chgO hc fun hne ad ha hk => hO hne ad ha (hPp _ hk)) (fun hne ad ha hk => ?_) hfl).mono ?_
 ·rcases hk with h | h
  ·exact hO hne ad ha h
  ·have := hfs hne ad ha
   have h9 : W.heap.size ≤ ad.block := h.1
   omega
 ·rintro e w'' ⟨p', v', r', rfl, hst, hA, hR'⟩
  refine ⟨_, _, _, rfl, ⟨rfl, p', v', r', rfl, hst.st, hst.g, fun k hk => ?_, fun k hk => .inl (.inl hk), fun k hk => .inr hk, hA, hR'⟩, fun k h1 h2 => .inl (.inr ⟨h1, h2⟩), hst.chg⟩
  rcases hst.sub k hk with h | h
  ·exact .inl h
  ·exact .inr (Nat.le_trans hc.size h)
set_option maxRecDepth 100000 in
set_option maxHeartbeats 8000000 in
theorem plays_walk (mw ml l0 l1 l2 : Int) (A : Option Addr) (c : Nat) (xs : List CallV) (w : World) (hS : Slc CallV.enc 17 w w.heap.size A xs) (hlen : xs.length ≤ maxLen) (hin : ∀ (i : Nat) x, xs[i]? = some x → CallIn w x) :
  Calls Tryz.prog 3 #[.agg #[mw, ml, l0, l1, l2], .slice A xs.length c] w fun e w' => e = .returned (.bool true) ∧ Below w.heap.size w w' := by
 have HS := hide hS
 have HIN := hide hin
 have hk := Blk.new w 24 #[mw, ml, l0, l1, l2]
 have hB := (Below.refl w.heap.size w).alloc (Nat.le_refl _) (.cells #[mw, ml, l0, l1, l2] 24)
 clear hS hin
 go_enter Tryz.func3, Tryz.ntmps3
 go_upto_region 1 with fail
 generalize w.alloc (.cells #[mw, ml, l0, l1, l2] 24) = W at *
 obtain ⟨k0, k1, k2, k3, k4⟩ := hk.all5
 cases hL : largeB xs 20 with
 | true =>
  have HL := hide hL
  clear hL
  go_wp2_with fail
  refine (large_is A c xs 20 W (Slc.on HS.out hB) hlen HL.out).mono ?_
  rintro e W' ⟨rfl, rfl⟩
  clear k0 k1 k2 k3 k4 hk
  go_wp2_with fail
  refine (awake_any _).mono ?_
  rintro e W9 ⟨rfl, hb9⟩
  have hB9 := hB.trans (hb9.mono hB.size)
  go_wp2_with fail
  go_ret
  exact ⟨rfl, hB9⟩
 | false =>
  have HL := hide hL
  clear hL
  cases hv : validRules ⟨mw, ml, l0, l1, l2⟩ with
  | false =>
   have HV := hide hv
   clear hv
   go_wp2_with fail
   refine (large_is A c xs 20 W (Slc.on HS.out hB) hlen HL.out).mono ?_
   rintro e W' ⟨rfl, rfl⟩
   go_wp2_with fail
   refine (new_no mw ml l0 l1 l2 W HV.out).mono ?_
   rintro e W3 ⟨rfl, hb3⟩
   replace hk := hk.below hb3 hk.lt
   replace hB := hB.trans (hb3.mono hB.size)
   clear k0 k1 k2 k3 k4 hb3
   obtain ⟨k0, k1, k2, k3, k4⟩ := hk.all5
   go_wp2_with fail
   refine (rvr_is2 mw ml l0 l1 l2 _ HV.out).mono ?_
   rintro e W4 ⟨rfl, hb4⟩
   replace hB := hB.trans (hb4.mono hB.size)
   clear k0 k1 k2 k3 k4 hb4 hk
   go_wp2_with fail
   refine (awake_any _).mono ?_
   rintro e W9 ⟨rfl, hb9⟩
   have hB9 := hB.trans (hb9.mono hB.size)
   go_wp2_with fail
   go_ret
   exact ⟨rfl, hB9⟩
  | true =>
   have HV := hide hv
   clear hv
   go_wp2_with fail
   refine (large_is A c xs 20 W (Slc.on HS.out hB) hlen HL.out).mono ?_
   rintro e W' ⟨rfl, rfl⟩
   obtain ⟨hl20, hbig⟩ := not_large HL.out
   have hl100 : xs.length ≤ 20 := by omega
   have HBIG := hide hbig
   clear hl20 hbig
   go_wp2_with fail
   refine (new_yes mw ml l0 l1 l2 W HV.out).mono ?_
   rintro e W5 ⟨g, ri, rp, rq, rl, rfl, hst, hg, h1, h2, h3, h4, hb5⟩
   have hX := sta_new (hst 0 (by omega))
   have hws := hB.size
   have hnew : ∀ k, (⟨g, ri, rp, rq, rl⟩ : Fp).has k → w.heap.size ≤ k := by
    rintro k (rfl | rfl | rfl | rfl | rfl)
    ·exact Nat.le_trans hws hg
    ·exact Nat.le_trans hws h1
    ·exact Nat.le_trans hws h2
    ·exact Nat.le_trans hws h3
    ·exact Nat.le_trans hws h4
   replace hk := hk.below hb5 hk.lt
   replace hB := hB.trans (hb5.mono hws)
   clear k0 k1 k2 k3 k4 hst hg h1 h2 h3 h4 hb5 hws
   obtain ⟨k0, k1, k2, k3, k4⟩ := hk.all5
   go_wp2_with fail
   refine (rvr_is2 mw ml l0 l1 l2 _ HV.out).mono ?_
   rintro e W4 ⟨rfl, hb4⟩
   replace hk := hk.below hb4 hk.lt
   replace hX := hX.below hb4
   replace hB := hB.trans (hb4.mono hB.size)
   clear k0 k1 k2 k3 k4 hb4
   obtain ⟨k0, k1, k2, k3, k4⟩ := hk.all5
   go_upto_region 8 with fail
   go_upto_region 9 with (refine wpList_bld rfl (.agg #[mw, ml, l0, l1, l2, .slice none 0 0, .slice none 0 0, .slice none 0 0, .slice none 0 0]) rfl (by simp [Act.eval]; rfl) (build_rv0 mw ml l0 l1 l2) ?_)
   have hbx := Blk.new W4 38 #[mw, ml, l0, l1, l2, .slice none 0 0, .slice none 0 0, .slice none 0 0, .slice none 0 0]
   have hal := (Below.refl W4.heap.size W4).alloc (Nat.le_refl _) (.cells #[mw, ml, l0, l1, l2, .slice none 0 0, .slice none 0 0, .slice none 0 0, .slice none 0 0] 38)
   replace hX := hX.below hal
   have hb4 : w.heap.size ≤ W4.heap.size := hB.size
   replace hB := hB.trans (hal.mono hB.size)
   obtain ⟨b7, hb7⟩ := nm_ W4.heap.size
   rw [hb7] at hbx hb4 ⊢
   clear k0 k1 k2 k3 k4 hk hal hb7
   generalize W4.alloc (.cells #[mw, ml, l0, l1, l2, .slice none 0 0, .slice none 0 0, .slice none 0 0, .slice none 0 0] 38) = W6 at *
   have HB7 := hide hb4
   clear hb4
   go_upto_region 10 with fail
   go_loopw [8] (fun z wr => ∃ (i : Nat) (p : Fp) (s : SS) (v : RV) (r : RS), z = .int .i64 i ∧ i ≤ xs.length ∧ p.g = g ∧ StA wr p s ∧ Hid (Inv s ∧ Room s (2000 - 50 * i) ∧ Rel r s) ∧ Blk wr b7 38 ↑v ∧ RAt wr (fun k => p.has k ∨ k = b7) v r ∧ (∀ k, p.has k → w.heap.size ≤ k) ∧ Below w.heap.size w wr) (fun z _ => xs.length - (intOf z).toNat)
   case atStart => exact ⟨0, ⟨g, ri, rp, rq, rl⟩, ⟨⟨mw, ml, l0, l1, l2⟩, [], [], [], [], 0, 0, 0⟩, rv0 mw ml l0 l1 l2, ⟨⟨mw, ml, l0, l1, l2⟩, [], [], [], []⟩, rfl, Nat.zero_le _, rfl, hX, ⟨new_inv HV.out, new_room.less (by omega), rel_new _⟩, hbx, rat0 _ _ _ _ _ _ _, hnew, hB⟩
   case round =>
    clear hX hbx hnew hB
    obtain ⟨W, rfl⟩ := is_ wr
    obtain ⟨i, p, s, v, r, rfl, hi, hpg, hX, hH, hbx, hA, hnew, hB⟩ := hrel
    by_cases hlt : i < xs.length
    ·obtain ⟨x, hx⟩ : ∃ x, xs[i]? = some x := ⟨_, List.getElem?_eq_getElem hlt⟩
     obtain ⟨b, off, hAA, hbw, _⟩ := HS.out i x hx
     obtain ⟨b', off', hA', _, d0, d1, d2, d3, d4, d5, d6, d7, d8, d9, d10, d11, d12, d13, d14, d15, d16⟩ := call_at (HS.out.below hB) hx
     obtain ⟨rfl, rfl⟩ : b = b' ∧ off = off' := by rw [hAA] at hA'; injection hA' with hA'; injection hA' with h1 h2; exact ⟨h1, h2⟩
     have hii : (i : Int) < (xs.length : Int) := by omega
     have ei := wsuc i (by omega)
     obtain ⟨fs, f1, _, f2, _⟩ := (HIN.out i x hx).fs
     have hn40 := (HBIG.out x (List.mem_of_getElem? hx)).1
     have HFL : Hid (fs.length ≤ 100000) := by show _ ≤ _; omega
     have HFN : Hid (x.n = fs.length) := f1.symm
     have HFS : Hid (Slc Pt.enc 2 W W.heap.size x.A fs) := (f2.below hB).more hB.size
     have HOF : Hid (Offs (fun k => p.has k ∨ k = b7) x.A fs) := fun hne ad ha hh => by
      obtain ⟨z, hz⟩ := List.exists_mem_of_ne_nil _ hne
      obtain ⟨j, hj⟩ := List.getElem?_of_mem hz
      obtain ⟨b2, off2, hA2, hlt2, _⟩ := f2 j z hj
      rw [ha] at hA2
      injection hA2 with hA2
      subst hA2
      have h3 : b2 < w.heap.size := hlt2
      rcases hh with h | h
      ·have h1 : w.heap.size ≤ b2 := hnew _ h
       omega
      ·have h1 : b2 = b7 := h
       have := HB7.out
       omega
     have HNB : Hid (¬ p.has b7) := hX.nhas hbx (by decide)
     have HBW : Hid (b < W.heap.size ∧ ¬ p.has b) := ⟨Nat.lt_of_lt_of_le hbw hB.size, fun h => by have := hnew _ h; omega⟩
     have HI : Hid (Inv s) := hH.out.1
     have HRM : Hid (Room s (2000 - 50 * (i + 1) + 50)) := hH.out.2.1.less (by omega)
     have HR : Hid (Rel r s) := hH.out.2.2
     have HXX := hide hX
     have HAX := hide hA
     have HBX := hide hbx
     have HNW := hide hnew
     have HPG := hide hpg
     have HBB := hide hB
     have HPL : Hid (∀ k, (p.has k ∨ k = b7) → k < W.heap.size) := fun k hk => by
      rcases hk with h | h
      ·exact hX.lt h
      ·subst h; exact hbx.lt
     subst hAA
     clear hx hH hnew hpg hX hA hbx hB f1 f2 hn40 hA' hbw
     go_upto_region 12 with fail
     refine wp_region_plays (args := #[.pointer (some ⟨g, 0, none⟩), .agg ↑v, .agg ↑x]) (tg := 38) (zs := ↑zrA) p.has (fun w0 => StA w0 p s) (PlR p (callF s x fs) (fun k => p.has k ∨ k = b7) W.heap.size) 52 45 53 54 9 (by kernel_rfl) (by kernel_rfl) (by kernel_rfl) (by kernel_rfl) (fun w0 w1 hb h => h.below hb) (fun u y PN w0 w1 hb h => h.below hb) (fun u y PN w0 o h => h.grow o) (fun u y PN w0 w1 g9 cs hB9 hg hc h => h.chg hB9 hg hc) (fun u y PN w0 ⟨_, _, v', _, h1, _⟩ => ⟨_, h1, rfl, by simp [Value.oneCell']⟩) (fun w0 g9 h hb => h.nhas hb (by decide)) rfl rfl rfl rfl rfl rfl rfl rfl rfl rfl rfl rfl rfl rfl rfl rfl rfl rfl rfl rfl rfl rfl rfl (fun ev w0 => by first | rfl | simp [execOp, go_sem] | kernel_rfl) ⟨by simp, by simp, by simp, by simp, by simp⟩ ⟨by decide, by decide, by decide⟩ (by kernel_rfl) HXX.out (fun _ _ => rfl) ?_
     apply Exists.intro
     refine ⟨fun W1 hc => ?_, ?_⟩
     ·have hx1 := HBX.out.chg hc HNB.out
      obtain ⟨y_c0, y_c1, y_c2, y_c3, y_c4, y_c5, y_c6, y_c7, y_c8⟩ := hx1.sin9
      have y_d0 := Since.cell ((World.cell?_of_block (hc.block b HBW.out.1 HBW.out.2)).trans d0)
      have y_d1 := Since.cell ((World.cell?_of_block (hc.block b HBW.out.1 HBW.out.2)).trans d1)
      have y_d2 := Since.cell ((World.cell?_of_block (hc.block b HBW.out.1 HBW.out.2)).trans d2)
      have y_d3 := Since.cell ((World.cell?_of_block (hc.block b HBW.out.1 HBW.out.2)).trans d3)
      have y_d4 := Since.cell ((World.cell?_of_block (hc.block b HBW.out.1 HBW.out.2)).trans d4)
      have y_d5 := Since.cell ((World.cell?_of_block (hc.block b HBW.out.1 HBW.out.2)).trans d5)
      have y_d6 := Since.cell ((World.cell?_of_block (hc.block b HBW.out.1 HBW.out.2)).trans d6)
      have y_d7 := Since.cell ((World.cell?_of_block (hc.block b HBW.out.1 HBW.out.2)).trans d7)
      have y_d8 := Since.cell ((World.cell?_of_block (hc.block b HBW.out.1 HBW.out.2)).trans d8)
      have y_d9 := Since.cell ((World.cell?_of_block (hc.block b HBW.out.1 HBW.out.2)).trans d9)
      have y_d10 := Since.cell ((World.cell?_of_block (hc.block b HBW.out.1 HBW.out.2)).trans d10)
      have y_d11 := Since.cell ((World.cell?_of_block (hc.block b HBW.out.1 HBW.out.2)).trans d11)
      have y_d12 := Since.cell ((World.cell?_of_block (hc.block b HBW.out.1 HBW.out.2)).trans d12)
      have y_d13 := Since.cell ((World.cell?_of_block (hc.block b HBW.out.1 HBW.out.2)).trans d13)
      have y_d14 := Since.cell ((World.cell?_of_block (hc.block b HBW.out.1 HBW.out.2)).trans d14)
      have y_d15 := Since.cell ((World.cell?_of_block (hc.block b HBW.out.1 HBW.out.2)).trans d15)
      have y_d16 := Since.cell ((World.cell?_of_block (hc.block b HBW.out.1 HBW.out.2)).trans d16)
      clear hx1
      dsimp only [pick, List.filterMap, List.getElem?_cons_succ, List.getElem?_cons_zero]
      repeat (go_big_quiet_step (fail))
      exact wpQuiet_nil rfl
     clear d0 d1 d2 d3 d4 d5 d6 d7 d8 d9 d10 d11 d12 d13 d14 d15 d16
     refine ⟨rfl, by simp [Act.eval], fun w0 hc0 hX0 => ?_, fun cs y g9 PN w9 hc9 hR9 hs9 hg9 => ?_⟩
     ·rw [← HPG.out]
      exact plays_call p s _ v r x fs W w0 hX0 HI.out (HRM.out.less (by omega)) HAX.out HR.out HPL.out (fun k hk => .inl hk) HFN.out HFS.out HOF.out HFL.out hc0
     obtain ⟨rfl, p', v', r', hcs, hX9, hpg9, hsub, hPP, hpP, hA9, hR'⟩ := hR9
     injection hcs with hcs
     subst hcs
     have hbx9 := HBX.out.chg hc9 HNB.out
     have hB9 := HBB.out.trans (hc9.to_below HBB.out.size fun k hk h => by have := HNW.out k h; omega)
     have HPG2 : Hid (p'.g = g) := hpg9.trans HPG.out
     have HNW2 : Hid (∀ k, p'.has k → w.heap.size ≤ k) := fun k hk => by
      rcases hsub k hk with h | h
      ·exact HNW.out k h
      ·exact Nat.le_trans HBB.out.size h
     have HI2 := hide (call_inv HI.out x fs)
     have HRM2 := hide (call_room HRM.out x fs)
     have HR2 := hide hR'
     have HPN : Hid ((∀ k, p'.has k → PN k) ∧ PN b7) := ⟨hpP, hPP b7 (.inr rfl)⟩
     have HX9 := hide hX9
     have HA9 := hide hA9
     clear hc9 hpg9 hsub hPP hpP hR' hX9 hA9 hg9
     generalize callF s x fs = s' at *
     dsimp only [Act.put]
     simp only [List.setIfInBounds_toArray, List.set_cons_succ, List.set_cons_zero, List.drop_succ_cons, List.drop_zero]
     obtain ⟨c0, c1, c2, c3, c4, c5, c6, c7, c8⟩ := hs9.all9
     go_upto_region 14 with (refine wpList_store_blk rfl 38 _ _ rfl ↑v' hbx9 rfl rfl (by kernel_rfl) rfl (by simp [Value.oneCell']) ?_; intro W10 hs10 hc10)
     try dsimp only [Act.put]
     clear c0 c1 c2 c3 c4 c5 c6 c7 c8
     have HA10 := hide (HA9.out.chg (hc10.mono fun k _ hk => by subst hk; exact HPN.out.2))
     have HX10 := hide (HX9.out.chg1 hc10 hbx9 (by decide) (by decide))
     have hB10 := hB9.trans (hc10.below1 hB9.size HB7.out)
     clear hs9 hbx9 hc10 hB9
     obtain ⟨c0, c1, c2, c3, c4, c5, c6, c7, c8⟩ := hs10.all9
     go_wp2_with fail
     rw [← HPG2.out]
     refine (alike_any p' s' PN v' r' W10 HX10.out HI2.out HRM2.out.few HA10.out HR2.out).mono ?_
     rintro e W11 ⟨rfl, hb11⟩
     clear c0 c1 c2 c3 c4 c5 c6 c7 c8
     rw [HPG2.out]
     have hX11 := HX10.out.below hb11
     have hA11 := (HA10.out.below hb11).less (P := fun k => p'.has k ∨ k = b7) fun k hk => by
      rcases hk with h | h
      ·exact HPN.out.1 k h
      ·subst h; exact HPN.out.2
     have hbx11 := hs10.below hb11 hs10.lt
     have hB11 := hB10.trans (hb11.mono hB10.size)
     clear hs10 hb11 hB10
     go_wp2_with fail
     go_roundw
     case rel => exact ⟨i + 1, p', s', v', r', by go_num, by omega, HPG2.out, hX11, ⟨HI2.out, HRM2.out, HR2.out⟩, hbx11, hA11, HNW2.out, hB11⟩
     case measure => simp [intOf]; omega
    ·obtain rfl : i = xs.length := by omega
     clear hX hA hH hbx
     go_wp2_with fail
     refine (awake_any _).mono ?_
     rintro e W9 ⟨rfl, hb9⟩
     have hB9 := hB.trans (hb9.mono hB.size)
     go_wp2_with fail
     go_ret
     exact ⟨rfl, hB9⟩
end Go.Proofs.YtehlbomkldnalaaGreat
