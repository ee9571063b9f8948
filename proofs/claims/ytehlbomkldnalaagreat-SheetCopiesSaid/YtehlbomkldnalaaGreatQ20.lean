/- Parts of the proofs of this seat: Ord, OrdW. Each part says what it proves; no condition beyond those stated there. -/
import Derived.Test.YtehlbomkldnalaaGreatQ14
import Derived.Test.YtehlbomkldnalaaGreatQ19

/- ordered: the lots of a need, the eldest first: the walk. -/
namespace Go.Proofs.YtehlbomkldnalaaGreat
open Go Go.Sort Go.RowKit StabInt
def cfO (s : SS) (x y : Int) : Int := madeF s x - madeF s y
theorem ltO (s : SS) (x y : Int) : ltF (cfO s) x y = decide (madeF s x < madeF s y) := by
 unfold ltF cfO
 by_cases h : madeF s x < madeF s y
 ·rw [decide_eq_true h, decide_eq_true (by omega)]
 ·rw [decide_eq_false h, decide_eq_false (by omega)]
def ordF (s : SS) (n : Need) : List Int := sortK (madeF s) (lotsOfF s n)
theorem made_bd {s : SS} {d : Int} (h : InvD d s) (x : Int) : 0 ≤ madeF s x ∧ madeF s x ≤ 100000 := by
 unfold madeF
 cases e : look s.lots x with
 | none => exact ⟨Int.le_refl _, by show (0 : Int) ≤ 100000; decide⟩
 | some k => exact (h.lo _ _ e).2.2
theorem lot_look {w : World} {p : Fp} {s : SS} (hX : StA w p s) (x : Int) : ∃ g c, ∀ n, (Instr.lookup 65 (.map (some p.rl)) (.int .i64 x) false).run Tryz.prog (w.drewN n) = .ok (.agg #[.int .i64 g, .int .i64 c, .int .i64 (madeF s x)]) (w.drewN n) := by
 cases e : look s.lots x with
 | none =>
  refine ⟨0, 0, fun n => ?_⟩
  have hm : madeF s x = 0 := by unfold madeF; rw [e]
  rw [hm]
  exact (hX.lots.same (w' := w.drewN n) rfl).look_no (P := Tryz.prog) (t := 65) Tryz.underlying65 Tryz.underlying3 (fun w => by kernel_rfl) (look_kv_none e) false
 | some k =>
  refine ⟨k.grade, k.colour, fun n => ?_⟩
  have hm : madeF s x = k.made := by unfold madeF; rw [e]
  rw [hm]
  exact (hX.lots.same (w' := w.drewN n) rfl).look_yes (P := Tryz.prog) (t := 65) Tryz.underlying65 Tryz.underlying3 (look_kv_some e) false
theorem fld_kin (g c m : Int) (w : World) : (Instr.field 100 (.agg #[g, c, m]) 2).run Tryz.prog w = .ok (.int .i64 m) w := by kernel_rfl
set_option maxHeartbeats 2000000 in
theorem ord1_any (p : Fp) (s : SS) (a b : Int) (g : Nat) (w : World) (hX : StA w p s) (hI : Inv s) (hbx : Blk w g 28 #[.pointer (some ⟨p.g, 0, none⟩)]) :
  Calls Tryz.prog 76 #[a, b, .pointer (some ⟨g, 0, none⟩)] w fun e w' => e = .returned (.int .i64 (madeF s a - madeF s b)) ∧ ∃ q, w' = w.drewN q := by
 obtain ⟨g1, k1, l1⟩ := lot_look hX a
 obtain ⟨g2, k2, l2⟩ := lot_look hX b
 have h1 := made_bd hI a
 have h2 := made_bd hI b
 have e9 := IntWalk.i64_in (madeF s a - madeF s b) (by omega)
 have c9 := hX.blk.cell_ 9 (v := .map (some p.rl)) rfl
 have c0 := hbx.cell_ 0 rfl
 have f1 := fld_kin g1 k1 (madeF s a)
 have f2 := fld_kin g2 k2 (madeF s b)
 clear hX hI hbx h1 h2
 generalize madeF s a = ma at *
 generalize madeF s b = mb at *
 go_enter Tryz.func76, Tryz.ntmps76
 go_wp2_with fail
 go_quiet (fail)
 go_wp2_with fail
 go_ret
 exact ⟨rfl, _, rfl⟩
theorem sw_chg {w : World} {enc : Int × Nat → Value} {g off m : Nat} {dk : Array (Int × Nat)} {os : Array Obj} : Chg (fun k => k = g) w (sortWorld enc w g off m dk os) := by
 refine ⟨rfl, rfl, rfl, size_sw_c _ _ _ _ _ _ _, fun k hk hne => ?_⟩
 unfold sortWorld
 rw [heap_grow_old _ _ (by rw [size_putRow]; show k < w.heap.size; omega)]
 unfold putRow mapBlock
 simp only [Array.getElem?_modify]
 rw [if_neg (by omega)]
 rfl
abbrev encI (x : Int) : Value := .int .i64 x
theorem lay_int : Lay Tryz.prog := by
 constructor
 all_goals first | (by_cases True <;> kernel_rfl) | (intros; kernel_rfl) | kernel_rfl
theorem cmp_ord (p : Fp) (s : SS) (bj g size : Nat) (cs : Array Value) (w : World) (hX : StA w p s) (hI : Inv s) (hbx : Blk w bj 28 #[.pointer (some ⟨p.g, 0, none⟩)]) (hG : Blk w g 3 cs) :
  Cmp Tryz.prog 76 #[.pointer (some ⟨bj, 0, none⟩)] (encT encI) (cfT (cfO s)) g 0 size w := fun m os dk _ x y => by
 have hc := sw_chg (w := w) (enc := encT encI) (g := g) (off := 0) (m := m) (dk := dk) (os := os)
 exact (ord1_any p s x.1 y.1 bj _ (hX.chg1 hc hG (by decide) (by decide)) hI (hbx.chg1 hc (hbx.ne_ hG (by decide)))).mono fun e w' ⟨he, q, hq⟩ => ⟨he, q, #[], by rw [hq, grow_empty]⟩
theorem sortO_any (p : Fp) (s : SS) (bj g c base : Nat) (l : List Int) (w : World) (hX : StA w p s) (hI : Inv s) (hbx : Blk w bj 28 #[.pointer (some ⟨p.g, 0, none⟩)]) (hO : Own w base 3 1 intEnc (.slice (some ⟨g, 0, none⟩) l.length c) l) (hl0 : l ≠ []) (hll : l.length ≤ 1000000) :
  Calls Tryz.prog 75 #[.slice (some ⟨g, 0, none⟩) l.length c, .func (.func 76) #[] #[.pointer (some ⟨bj, 0, none⟩)]] w fun e w' => e = .returned (.tuple #[]) ∧ Chg (fun k => k = g) w w' ∧ Slc intEnc 1 w' w'.heap.size (some ⟨g, 0, none⟩) (sortK (madeF s) l) := by
 obtain ⟨A', c', hv, hS⟩ := hO.form (fun _ => rfl)
 injection hv with hv _ _
 subst hv
 obtain ⟨cur, hG⟩ : ∃ cur, Blk w g 3 cur := by
  rcases hO.2 with ⟨_, h2⟩ | ⟨g2, cap, cur, h1, _, h3, _⟩
  ·exact absurd (List.length_eq_zero_iff.1 h2) hl0
  ·injection h1 with h1
   injection h1 with h1
   injection h1 with h1
   subst h1
   exact ⟨cur, h3⟩
 have hg := hG.lt
 have hH : Holds (encT encI) w g 0 (tagK l) := fun j hj => by
  rw [tagK_size] at hj
  have hj' : l[j]? = some l[j] := List.getElem?_eq_getElem hj
  rw [tagK_at hj']
  refine ⟨?_, frozen_of_row w g _ _ 3 hG⟩
  obtain ⟨b, off, hA, hlt, hcell⟩ := hS j l[j] hj'
  injection hA with hA
  injection hA with hb ho
  subst hb ho
  have := hcell 0 (.int .i64 l[j]) rfl
  show _ = some (Value.int .i64 l[j])
  simpa using this
 have C := sortStable_any lay_int encI (fun _ => rfl) (cfO s) (swoK (key := madeF s) (ltO s)) 76 #[.pointer (some ⟨bj, 0, none⟩)] g 0 c (tagK l) w (fun _ _ => by kernel_rfl) (cmp_ord p s bj g _ cur w hX hI hbx hG) hH hg (by rw [tagK_size]; omega) (fun i hi => by
  rw [tagK_size] at hi
  rw [tagK_at (List.getElem?_eq_getElem hi)])
 rw [tagK_size] at C
 refine C.mono fun e w' ⟨he, q, r, os, hw, hp, ht⟩ => ⟨he, ?_, ?_⟩
 ·rw [hw]; exact sw_chg
 ·have hs : r.size = l.length := by rw [hp.1, tagK_size]
  have hH2 : Holds (encT encI) w' g 0 r := by rw [hw]; exact holds_sw_c _ w g 0 (tagK l) r q os hH hg (by rw [hs, tagK_size])
  have he2 := sortedK_eq (ltO s) hp ht
  have hlt : g < w'.heap.size := by rw [hw]; exact Nat.lt_of_lt_of_le hg (size_sw_c _ _ _ _ _ _ _)
  intro i x hx
  rw [← he2, List.getElem?_map] at hx
  obtain ⟨y, hy, rfl⟩ := Option.map_eq_some_iff.1 hx
  have hi : i < r.size := by have := (List.getElem?_eq_some_iff.1 hy).1; simpa using this
  have hri : y = r[i]! := by
   rw [getElem!_pos r i hi]
   have : r.toList[i]? = some r[i] := by simp [hi]
   rw [this] at hy
   injection hy with hy
   exact hy.symm
  refine ⟨g, 0, rfl, hlt, fun j v hv => ?_⟩
  obtain rfl : j = 0 := by
   have := (List.getElem?_eq_some_iff.1 hv).1
   simpa [intEnc] using this
  have h9 := (hH2 i hi).1
  rw [← hri] at h9
  have h8 : Value.int .i64 y.1 = v := by simpa [intEnc] using hv
  rw [Nat.mul_one, Nat.add_zero, h9, ← h8]
  rfl
/-- nothing to sort -/
theorem ins0_any (A : Option Addr) (c : Nat) (cb : Array Value) (w : World) : Calls Tryz.prog 107 #[.slice A 0 c, .int .i64 0, .int .i64 0, .func (.func 76) #[] cb] w fun e w' => e = .returned (.tuple #[]) ∧ w = w' := by
 go_enter Tryz.func107, Tryz.ntmps107
 go_wp2
 refine wp_loop_rounds 1 ?_
 rw [rounds_succ]
 go_wp2_with fail
 go_end0
 exact ⟨rfl, rfl⟩
theorem stable0_any (A : Option Addr) (c : Nat) (cb : Array Value) (w : World) : Calls Tryz.prog 85 #[.slice A 0 c, .int .i64 0, .func (.func 76) #[] cb] w fun e w' => e = .returned (.tuple #[]) ∧ w = w' := by
 go_enter Tryz.func85, Tryz.ntmps85
 go_wp2
 refine wp_loop_rounds 1 ?_
 rw [rounds_succ]
 go_wp2_with fail
 refine (ins0_any A c cb _).mono ?_
 rintro e w' ⟨rfl, rfl⟩
 go_wp2_with fail
 refine wp_loop_rounds 1 ?_
 rw [rounds_succ]
 go_wp2_with fail
 go_end0
 exact ⟨rfl, rfl⟩
theorem sort0_any (A : Option Addr) (c : Nat) (cb : Array Value) (w : World) : Calls Tryz.prog 75 #[.slice A 0 c, .func (.func 76) #[] cb] w fun e w' => e = .returned (.tuple #[]) ∧ w = w' := by
 go_enter Tryz.func75, Tryz.ntmps75
 go_wp2_with fail
 refine (stable0_any A c cb _).mono ?_
 rintro e w' ⟨rfl, rfl⟩
 go_wp2_with fail
 go_end0
 exact ⟨rfl, rfl⟩
end Go.Proofs.YtehlbomkldnalaaGreat

/- ordered: the walk. -/
namespace Go.Proofs.YtehlbomkldnalaaGreat
open Go Go.RowKit
def OrdPost (l : List Int) (w : World) (e : Ending) (w' : World) : Prop := ∃ A c, e = .returned (.slice A l.length c) ∧ Slc intEnc 1 w' w'.heap.size A l ∧ Below w.heap.size w w' ∧ ∀ ad, A = some ad → w.heap.size ≤ ad.block
theorem lots_len (s : SS) (n : Need) : (lotsOfF s n).length ≤ s.lots.length := by
 unfold lotsOfF
 refine Nat.le_trans (List.length_filter_le _ _) ?_
 rw [keys_len]; exact Nat.le_refl _
set_option maxRecDepth 100000 in
set_option maxHeartbeats 4000000 in
theorem ordered_any (p : Fp) (s : SS) (n : Need) (w : World) (hX : StA w p s) (hI : Inv s) (hF : Few s) :
  Calls Tryz.prog 54 #[.pointer (some ⟨p.g, 0, none⟩), .agg ↑n] w (OrdPost (ordF s n) w) := by
 have HI := hide hI
 have HF := hide hF
 have hp0 := Blk.new w 28 #[.pointer (some ⟨p.g, 0, none⟩)]
 have hp0 := hp0.alloc (.cells ↑n 45)
 have hn := Blk.new (w.alloc (.cells #[.pointer (some ⟨p.g, 0, none⟩)] 28)) 45 ↑n
 have hal := ((Below.refl w.heap.size w).alloc (Nat.le_refl _) (.cells #[.pointer (some ⟨p.g, 0, none⟩)] 28)).alloc (by simp) (.cells ↑n 45)
 rw [show (w.alloc (.cells #[.pointer (some ⟨p.g, 0, none⟩)] 28)).heap.size = w.heap.size + 1 by simp] at hn
 replace hX := hX.below hal
 clear hI hF
 go_enter Tryz.func54, Tryz.ntmps54
 go_upto_region 2 with fail
 generalize (w.alloc (.cells #[.pointer (some ⟨p.g, 0, none⟩)] 28)).alloc (.cells ↑n 45) = W at *
 obtain ⟨b0, hb0⟩ := nm_ w.heap.size
 rw [hb0] at hp0 hn hal ⊢
 have HB0 := hide hb0
 clear hb0
 have c9 := hX.blk.cell_ 9 (v := .map (some p.rl)) rfl
 have z0 := hp0.cell_ 0 rfl
 go_wp2_with fail
 refine (keys_lots (some p.rl) W).mono ?_
 rintro e w1 ⟨rfl, hw1⟩
 have hb1 : Below W.heap.size W w1 := by rw [hw1]; exact (Below.refl _ _).alloc (Nat.le_refl _) _
 have hm1 : w1.cell? ⟨W.heap.size, 0, none⟩ = some (.map (some p.rl)) := by rw [hw1]; exact (Blk.new W _ _).cell_ 0 rfl
 have hlt1 : W.heap.size < w1.heap.size := by rw [hw1]; simp
 clear hw1 c9 z0
 go_wp2_with fail
 refine (sorted_lots W.heap.size p.rl _ w1 hm1 hlt1 (hX.lots.below hb1 hX.lots.lt) (fun q hq => by obtain ⟨q', h1, rfl⟩ := List.mem_map.1 hq; exact lot_keys HI.out h1) (by have := HF.out.lo; simpa using this)).mono ?_
 rintro e w2 ⟨AK, cK, rfl, hK, hb2⟩
 rw [keysS_kv] at hK
 rw [keysS_kv]
 replace hb2 := hb1.trans (hb2.mono (by omega))
 replace hX := hX.below hb2
 replace hp0 := hp0.below hb2 hp0.lt
 replace hn := hn.below hb2 hn.lt
 have hal2 := hal.trans (hb2.mono (by have := hal.size; have := HB0.out; omega))
 clear hm1 hlt1 hb1 hb2 hal
 obtain ⟨ks, hks⟩ := nm_ (keysS s.lots)
 have HKS := hide hks
 have hkl : ks.length ≤ 1000000 := by rw [← hks, keys_len]; exact HF.out.lo
 rw [hks] at hK
 rw [hks]
 clear hks
 have hn1 := hn.lt
 have HX := hide hX
 have HP0 := hide hp0
 have HNB := hide hn
 clear hX hp0 hn
 go_upto_block 4 with fail
 go_loopw [5, 16] (fun v z wr => ∃ (i : Nat), z = .int .i64 i ∧ i ≤ ks.length ∧ Own wr w2.heap.size 3 1 intEnc v ((ks.take i).filter (lotOk s n)) ∧ Below w2.heap.size w2 wr) (fun _ z _ => ks.length - (intOf z).toNat)
 case atStart => exact ⟨0, rfl, Nat.zero_le _, Own.nil_, Below.refl _ _⟩
 case round =>
  obtain ⟨W, rfl⟩ := is_ wr
  obtain ⟨i, rfl, hi, hO, hB⟩ := hrel
  have hBs := hB.size
  by_cases hlt : i < ks.length
  ·obtain ⟨k, bK, oK, hk, hA, hbK, d0⟩ := ints_at' (hK.below hB) hlt
   have hii : (i : Int) < (ks.length : Int) := by omega
   have ei := wsuc i (by omega)
   obtain ⟨x, hx⟩ := keys_at (M := s.lots) HI.out.kl (i := i) (k := k) (by rw [HKS.out]; exact hk)
   have HT0 : Hid ((ks.take (i + 1)).filter (lotOk s n) = (ks.take i).filter (lotOk s n) ++ [k].filter (lotOk s n)) := by
    show _ = _
    rw [List.take_add_one, hk, Option.toList_some, List.filter_append]
   have HLO : Hid (lotOk s n k = (decide (x.grade = n.grade) && decide (x.colour = n.colour))) := by show lotOk s n k = _; unfold lotOk; rw [hx]
   have hXW := HX.out.below hB
   have lk := hXW.lots.look_yes (P := Tryz.prog) (t := 65) Tryz.underlying65 Tryz.underlying3 (look_kv_some hx) false
   obtain ⟨xg, xc, xm⟩ := x
   unfold Kin.val at lk
   dsimp only at lk HLO
   have c9 := hXW.blk.cell_ 9 (v := .map (some p.rl)) rfl
   have z0 := (HP0.out.below hB HP0.out.lt).cell_ 0 rfl
   have hal := (Below.refl W.heap.size W).alloc (Nat.le_refl _) (.cells #[xg, xc, xm] 100)
   have hkb := Blk.new W 100 #[xg, xc, xm]
   subst hA
   clear hk hx hXW
   go_upto_region 6 with fail
   clear d0 lk c9 z0
   replace hO := hO.below hal
   replace hB := hB.trans (hal.mono hBs)
   replace hBs := Nat.le_trans hBs hal.size
   clear hal
   generalize W.alloc (.cells #[xg, xc, xm] 100) = W3 at *
   generalize W.heap.size = bx at *
   obtain ⟨W, rfl⟩ := is_ W3
   have k0 := hkb.cell_ 0 (v := xg) rfl
   have k1 := hkb.cell_ 1 (v := xc) rfl
   have hnW := HNB.out.below hB HNB.out.lt
   have y0 := hnW.cell_ 0 (v := n.grade) rfl
   have y1 := hnW.cell_ 1 (v := n.colour) rfl
   clear hkb hnW
   by_cases hg : xg = n.grade
   ·by_cases hc : xc = n.colour
    ·have HT : Hid ((ks.take (i + 1)).filter (lotOk s n) = (ks.take i).filter (lotOk s n) ++ [k]) := by
      show _ = _
      rw [HT0.out, List.filter_cons, if_pos (by rw [HLO.out, decide_eq_true hg, decide_eq_true hc]; rfl)]; rfl
     have hfl : ((ks.take i).filter (lotOk s n)).length ≤ 1000000 := Nat.le_trans (List.length_filter_le _ _) (by rw [List.length_take]; omega)
     clear HT0 HLO
     go_wp2_with (at_builtin; refine wpList_app_own (base := w2.heap.size) (f := intEnc) (ys := [k]) _ _ rfl rfl et_ints (hO.alloc _) rfl rfl ((Blk.new W 3 #[k]).slc1 rfl) rfl (fun _ => rfl) intEnc_one (by simp <;> omega) (by simp <;> omega) ?_; intro v6 W6 hO6 hb6 hg6)
     have hal := (Below.refl W.heap.size W).alloc (Nat.le_refl _) (.cells #[k] 3)
     replace hB := (hB.trans (hal.mono hB.size)).trans hb6
     clear k0 k1 y0 y1 hO hal hb6 hg6 hg hc hfl
     go_roundw
     case rel => exact ⟨i + 1, by go_num, by omega, by rw [HT.out]; exact hO6, hB⟩
     case measure => simp [intOf]; omega
    ·have HT : Hid ((ks.take (i + 1)).filter (lotOk s n) = (ks.take i).filter (lotOk s n)) := by
      show _ = _
      rw [HT0.out, List.filter_cons, if_neg (by rw [HLO.out, decide_eq_false hc, Bool.and_false]; simp)]; simp
     clear HT0 HLO
     go_wp2_with fail
     clear k0 k1 y0 y1
     go_roundw
     case rel => exact ⟨i + 1, by go_num, by omega, by rw [HT.out]; exact hO, hB⟩
     case measure => simp [intOf]; omega
   ·have HT : Hid ((ks.take (i + 1)).filter (lotOk s n) = (ks.take i).filter (lotOk s n)) := by
     show _ = _
     rw [HT0.out, List.filter_cons, if_neg (by rw [HLO.out, decide_eq_false hg]; simp)]; simp
    clear HT0 HLO
    go_wp2_with fail
    clear k0 k1 y0 y1
    go_roundw
    case rel => exact ⟨i + 1, by go_num, by omega, by rw [HT.out]; exact hO, hB⟩
    case measure => simp [intOf]; omega
  ·obtain rfl : i = ks.length := by omega
   rw [List.take_length] at hO
   have HL : Hid (ks.filter (lotOk s n) = lotsOfF s n) := by show _ = _; unfold lotsOfF; rw [HKS.out]
   obtain ⟨ls, hls⟩ := nm_ (ks.filter (lotOk s n))
   have HLS := hide hls
   rw [hls] at hO
   have hll : ls.length ≤ 1000000 := by rw [← hls]; exact Nat.le_trans (List.length_filter_le _ _) hkl
   clear hls
   have HOD : Hid (ordF s n = Go.Proofs.YtehlbomkldnalaaGreat.sortK (madeF s) ls) := by show _ = _; unfold ordF; rw [← HL.out, HLS.out]
   have hXW := HX.out.below hB
   have hpW := HP0.out.below hB HP0.out.lt
   have hBW := hal2.trans (hB.mono (by have := hal2.size; have := HB0.out; omega))
   by_cases h0 : ls = []
   ·subst h0
    obtain ⟨A, c, rfl, hsl⟩ := hO.form (fun _ => rfl)
    have HA : Hid (∀ ad, A = some ad → w2.heap.size ≤ ad.block) := hO.from_ (Nat.le_refl _)
    clear hO
    go_wp2_with fail
    refine (sort0_any A c #[.pointer (some ⟨b0, 0, none⟩)] _).mono ?_
    rintro e w' ⟨rfl, rfl⟩
    go_wp2_with fail
    go_ret
    exact ⟨A, c, by rw [HOD.out]; rfl, by rw [HOD.out]; exact Slc.nil_, by rw [HB0.out]; exact hBW, fun ad h => by have h1 := HA.out ad h; have h2 := hal2.size; have := HB0.out; omega⟩
   ·obtain ⟨gq, cq, rfl, hge, hglt⟩ := hO.at_ (List.length_pos_iff.2 h0)
    go_wp2_with fail
    refine (sortO_any p s b0 gq cq w2.heap.size ls W hXW HI.out hpW hO h0 hll).mono ?_
    rintro e w' ⟨rfl, hc, hS⟩
    have hB9 : Below b0 w w' := hBW.trans (hc.to_below (by have := hBW.size; have := HB0.out; omega) fun k hk he => by subst he; have := hal2.size; have := HB0.out; omega)
    clear hXW hpW hO hBW hc
    go_wp2_with fail
    go_ret
    exact ⟨some ⟨gq, 0, none⟩, cq, by rw [HOD.out, sortK_len]; rfl, by rw [HOD.out]; exact hS, by rw [HB0.out]; exact hB9, fun ad h => by injection h with h; subst h; have h2 := hal2.size; have := HB0.out; show w.heap.size ≤ gq; omega⟩
end Go.Proofs.YtehlbomkldnalaaGreat
