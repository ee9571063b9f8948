/- falling: the indexes of the asks, the longest one first: the walk. -/
import Derived.Test.YtecaaimaeaocbaaDoorKGreedyP
import Derived.Test.YtecaaimaeaocbaaDoorStabSInt
namespace Go.Proofs.YtecaaimaeaocbaaDoor
open Go Go.Sort Go.RowKit StabInt
def natEnc (x : Nat) : List Value := [.int .i64 (x : Int)]
def natV (n : Nat) (x : Nat) : Value := .int .i64 ((x % n : Nat) : Int)
def cfG (l : List Ask) (x y : Nat) : Int := lenF l y - lenF l x
theorem ltG (l : List Ask) (x y : Nat) : ltF (cfG l) x y = decide (keyG l x < keyG l y) := by
  unfold ltF cfG keyG
  by_cases h : - lenF l x < - lenF l y
  · rw [decide_eq_true h, decide_eq_true (by omega)]
  · rw [decide_eq_false h, decide_eq_false (by omega)]
theorem lenF_mod (l : List Ask) (x : Nat) : lenF l (x % l.length) = lenF l x := by unfold lenF; rw [Nat.mod_mod]
set_option maxHeartbeats 1000000 in
theorem fall1_any (L K : Int) (A : Option Addr) (c : Nat) (l : List Ask) (a b bj : Nat) (w : World) (ha : a < l.length) (hb : b < l.length) (hJ : Slc Ask.enc 2 w w.heap.size A l) (hbx : Blk w bj 24 #[.int .i64 L, .int .i64 K, .slice A l.length c]) (hv : VK L K l) :
    Calls Tryd.prog 114 #[.int .i64 a, .int .i64 b, .pointer (some ⟨bj, 0, none⟩)] w fun e w' => e = .returned (.int .i64 (lenF l b - lenF l a)) ∧ ∃ q, w' = w.drewN q := by
  obtain ⟨x, b1, o1, hx, hA, _, d0, d1⟩ := ask_at hJ ha
  obtain ⟨y, b2, o2, hy, hA2, _, e0, e1⟩ := ask_at hJ hb
  have HV : Hid (lenF l b - lenF l a = y.len - x.len) := by show _ = _; rw [lenF_at hx, lenF_at hy]
  have hx1 := (hv.ask x (List.mem_of_getElem? hx)).1
  have hy1 := (hv.ask y (List.mem_of_getElem? hy)).1
  obtain ⟨hL1, hL2⟩ := hv.hL
  have e9 : IntKind.i64.wrap (y.len - x.len) = y.len - x.len := IntWalk.i64_in _ (by omega)
  subst hA
  obtain ⟨rfl, rfl⟩ : b1 = b2 ∧ o1 = o2 := by simpa using hA2
  have c2 := hbx.cell_ 2 rfl
  have hai : (a : Int) < (l.length : Int) := by omega
  have hbi : (b : Int) < (l.length : Int) := by omega
  clear hx hy d1 e1 hv hx1 hy1 hL1 hL2
  rw [HV.out]
  clear HV
  go_enter Tryd.func114, Tryd.ntmps114
  go_wp2_with fail
  go_quiet (fail)
  go_wp2_with fail
  go_ret
  exact ⟨rfl, _, rfl⟩
theorem sw_below {w : World} {enc : Nat × Nat → Value} {B g off m : Nat} {dk : Array (Nat × Nat)} {os : Array Obj} (hB : B ≤ g) (hg : g < w.heap.size) : Go.RowKit.Below B w (sortWorld enc w g off m dk os) := by
  refine ⟨rfl, rfl, rfl, size_sw_c _ _ _ _ _ _ _, fun k hk => ?_⟩
  unfold sortWorld
  rw [heap_grow_old _ _ (by rw [size_putRow]; show k < w.heap.size; omega)]
  unfold putRow mapBlock
  simp only [Array.getElem?_modify]
  rw [if_neg (by omega)]
  rfl
theorem cmp_fall (L K : Int) (A : Option Addr) (c : Nat) (l : List Ask) (bj B g size : Nat) (w : World) (hn : 0 < l.length) (hJ : Slc Ask.enc 2 w B A l) (hbx : Blk w bj 24 #[.int .i64 L, .int .i64 K, .slice A l.length c]) (hv : VK L K l) (hbj : bj < B) (hB : B ≤ g) (hg : g < w.heap.size) :
    Cmp Tryd.prog 114 #[.pointer (some ⟨bj, 0, none⟩)] (encT (natV l.length)) (cfT (cfG l)) g 0 size w := fun m os dk _ x y => by
  have hb := sw_below (w := w) (enc := encT (natV l.length)) (B := B) (off := 0) (m := m) (dk := dk) (os := os) hB hg
  have hs : B ≤ (sortWorld (encT (natV l.length)) w g 0 m dk os).heap.size := Nat.le_trans (by omega) hb.size
  refine (fall1_any L K A c l (x.1 % l.length) (y.1 % l.length) bj _ (Nat.mod_lt _ hn) (Nat.mod_lt _ hn) ((hJ.below hb).more hs) (hbx.below hb hbj) hv).mono fun e w' ⟨he, q, hq⟩ => ⟨?_, q, #[], by rw [hq, grow_empty]⟩
  rw [he, lenF_mod, lenF_mod]
  rfl
theorem lay_int : Lay Tryd.prog := by
  constructor
  all_goals first | (by_cases True <;> kernel_rfl) | (intros; kernel_rfl) | kernel_rfl
theorem oneCell_nat (n : Nat) : OneCell (natV n) := fun _ => rfl
/-- the sort of the indexes that the call owns -/
theorem sortG_any (L K : Int) (A : Option Addr) (cA : Nat) (al : List Ask) (bj B g c : Nat) (l : List Nat) (js7 : List Value) (w : World) (hl0 : l ≠ []) (hln : ∀ x ∈ l, x < al.length) (hll : l.length ≤ 1000) (hJ : Slc Ask.enc 2 w B A al) (hbx : Blk w bj 24 #[.int .i64 L, .int .i64 K, .slice A al.length cA]) (hv : VK L K al) (hbj : bj < B) (hB : B ≤ g)
    (hG : Blk w g 3 (l.map (fun x : Nat => Value.int .i64 (x : Int)) ++ js7).toArray) :
    Calls Tryd.prog 113 #[.slice (some ⟨g, 0, none⟩) l.length c, .func (.func 114) #[] #[.pointer (some ⟨bj, 0, none⟩)]] w fun e w' => e = .returned (.tuple #[]) ∧ Go.RowKit.Below B w w' ∧ Slc intEnc 1 w' w'.heap.size (some ⟨g, 0, none⟩) ((sortK (keyG al) l).map fun x : Nat => (x : Int)) := by
  have hg := hG.lt
  have hn : 0 < al.length := by
    obtain ⟨x, hx⟩ := List.exists_mem_of_ne_nil l hl0
    have := hln x hx
    omega
  have hH : Holds (encT (natV al.length)) w g 0 (tagK l) := fun j hj => by
    rw [tagK_size] at hj
    have hj' : l[j]? = some l[j] := List.getElem?_eq_getElem hj
    rw [tagK_at hj']
    refine ⟨?_, frozen_of_row w g _ _ 3 hG⟩
    have := hG.cell_ j (v := .int .i64 (l[j] : Int)) (by rw [List.getElem?_toArray, List.getElem?_append_left (by simpa using hj), List.getElem?_map, hj']; rfl)
    rw [Nat.zero_add, this]
    show _ = some (Value.int .i64 ((l[j] % al.length : Nat) : Int))
    rw [Nat.mod_eq_of_lt (hln _ (List.getElem_mem hj))]
  have C := sortStable_any lay_int (natV al.length) (oneCell_nat _) (cfG al) (swoK (key := keyG al) (ltG al)) 114 #[.pointer (some ⟨bj, 0, none⟩)] g 0 c (tagK l) w (fun _ _ => by kernel_rfl) (cmp_fall L K A cA al bj B g _ w hn hJ hbx hv hbj hB hg) hH hg (by rw [tagK_size]; omega) (fun i hi => by
    rw [tagK_size] at hi
    rw [tagK_at (List.getElem?_eq_getElem hi)])
  rw [tagK_size] at C
  refine C.mono fun e w' ⟨he, q, r, os, hw, hp, ht⟩ => ⟨he, ?_, ?_⟩
  · rw [hw]; exact sw_below hB hg
  · have hs : r.size = l.length := by rw [hp.1, tagK_size]
    have hH2 : Holds (encT (natV al.length)) w' g 0 r := by rw [hw]; exact holds_sw_c _ w g 0 (tagK l) r q os hH hg (by rw [hs, tagK_size])
    have he2 := sortedK_eq (ltG al) hp ht
    have hlt : g < w'.heap.size := by rw [hw]; exact Nat.lt_of_lt_of_le hg (size_sw_c _ _ _ _ _ _ _)
    intro i z hz
    rw [List.getElem?_map] at hz
    obtain ⟨x, hx, rfl⟩ := Option.map_eq_some_iff.1 hz
    have hxn : x < al.length := hln x ((sortK_perm (keyG al) l).subset (List.mem_of_getElem? hx))
    rw [← he2, List.getElem?_map] at hx
    obtain ⟨y, hy, rfl⟩ := Option.map_eq_some_iff.1 hx
    have hi : i < r.size := by have := (List.getElem?_eq_some_iff.1 hy).1; simpa using this
    have hri : y = r[i]! := by
      rw [getElem!_pos r i hi]
      have : r.toList[i]? = some r[i] := by simp [hi]
      rw [this] at hy
      injection hy with hy
      exact hy.symm
    refine ⟨g, 0, rfl, hlt, fun j v hv => ?_⟩
    obtain rfl : j = 0 := by
      have := (List.getElem?_eq_some_iff.1 hv).1
      simpa [intEnc] using this
    have h9 := (hH2 i hi).1
    rw [← hri] at h9
    have h8 : Value.int .i64 ((y.1 : Nat) : Int) = v := by simpa [intEnc] using hv
    rw [Nat.mul_one, Nat.add_zero, h9, ← h8]
    show some (Value.int .i64 ((y.1 % al.length : Nat) : Int)) = _
    rw [Nat.mod_eq_of_lt hxn]
/-- nothing to sort -/
theorem insI0_any (A : Option Addr) (c : Nat) (f : Value) (w : World) : Calls Tryd.prog 134 #[.slice A 0 c, .int .i64 0, .int .i64 0, f] w fun e w' => e = .returned (.tuple #[]) ∧ w = w' := by
  go_enter Tryd.func134, Tryd.ntmps134
  go_wp2
  refine wp_loop_rounds 1 ?_
  rw [rounds_succ]
  go_wp2_with fail
  go_end0
  exact ⟨rfl, rfl⟩
theorem stableI0_any (A : Option Addr) (c : Nat) (f : Value) (w : World) : Calls Tryd.prog 126 #[.slice A 0 c, .int .i64 0, f] w fun e w' => e = .returned (.tuple #[]) ∧ w = w' := by
  go_enter Tryd.func126, Tryd.ntmps126
  go_wp2
  refine wp_loop_rounds 1 ?_
  rw [rounds_succ]
  go_wp2_with fail
  refine (insI0_any A c f _).mono ?_
  rintro e w' ⟨rfl, rfl⟩
  go_wp2_with fail
  refine wp_loop_rounds 1 ?_
  rw [rounds_succ]
  go_wp2_with fail
  go_end0
  exact ⟨rfl, rfl⟩
theorem sortI0_any (A : Option Addr) (c : Nat) (f : Value) (w : World) : Calls Tryd.prog 113 #[.slice A 0 c, f] w fun e w' => e = .returned (.tuple #[]) ∧ w = w' := by
  go_enter Tryd.func113, Tryd.ntmps113
  go_wp2_with fail
  refine (stableI0_any A c f _).mono ?_
  rintro e w' ⟨rfl, rfl⟩
  go_wp2_with fail
  go_end0
  exact ⟨rfl, rfl⟩
/-- make([]T, 0, n) for elements of one cell -/
theorem run_make0 {P : Program} {t e : TypeId} {z : Value} {bytes : Nat} (ht : P.underlying t = some (.slice e)) (h : (P.info? e).map (fun i => (i.zero, i.size, i.bytes)) = some (some z, 1, bytes)) (hz : z.cells = #[z]) (hb : bytes ≤ 4096) (n : Nat) (hn : n ≤ 1000000) (w : World) :
    (Instr.makeSlice t (.int .i64 0) (.int .i64 n)).run P w = .ok (.slice (some ⟨w.heap.size, 0, none⟩) 0 n) (w.alloc (.cells (Array.replicate n z) e)) := by
  obtain ⟨i, hi, h1, h2, h3⟩ := info_parts h
  have hbn : (i.bytes : Int) * n ≤ 281474976710656 := by
    rw [h3]
    have h4 : bytes * n ≤ 4096 * 1000000 := Nat.mul_le_mul hb hn
    have h5 : ((bytes * n : Nat) : Int) = (bytes : Int) * (n : Int) := Int.natCast_mul _ _
    omega
  rw [run_make w t e i z ht hi h1 .i64 .i64 0 n (by omega) (by omega) hbn (by omega)]
  simp only [Int.toNat_natCast, h2, Nat.mul_one, hz]
  congr 3
  apply Array.ext
  · simp [size_madeCells]
  · intro j h1 h2
    simp [madeCells, Nat.mod_one]
def FallPost (l : List Ask) (w : World) (e : Ending) (w' : World) : Prop := ∃ A' c', e = .returned (.slice A' l.length c') ∧ Go.RowKit.Below w.heap.size w w' ∧ Slc intEnc 1 w' w'.heap.size A' ((fallG l).map fun x : Nat => (x : Int))
theorem own_make0 {w : World} {base n : Nat} (h : base ≤ w.heap.size) (hn : n ≤ 1000) : Own (w.alloc (.cells (Array.replicate n (Value.int .i64 0)) 3)) base 3 1 natEnc (.slice (some ⟨w.heap.size, 0, none⟩) 0 n) [] :=
  ⟨by simp, .inr ⟨w.heap.size, n, (Array.replicate n (Value.int .i64 0)), rfl, h, Blk.new w _ _, Nat.zero_le _, by unfold maxLen; omega, by simp, by simp⟩⟩
set_option maxRecDepth 100000 in
set_option maxHeartbeats 1000000 in
theorem falling_any (L K : Int) (A : Option Addr) (c : Nat) (l : List Ask) (w : World) (hS : Slc Ask.enc 2 w w.heap.size A l) (hv : VK L K l) :
    Calls Tryd.prog 87 #[.agg #[.int .i64 L, .int .i64 K, .slice A l.length c]] w (FallPost l w) := by
  have hk := Blk.new w 24 #[.int .i64 L, .int .i64 K, .slice A l.length c]
  have hB := (Go.RowKit.Below.refl w.heap.size w).alloc (Nat.le_refl _) (.cells #[.int .i64 L, .int .i64 K, .slice A l.length c] 24)
  have hl8 := hv.few
  go_enter Tryd.func87, Tryd.ntmps87
  go_upto_region 1 with fail
  generalize w.alloc (.cells #[.int .i64 L, .int .i64 K, .slice A l.length c] 24) = W at *
  have c0 := hk.cell_ 0 rfl
  have c1 := hk.cell_ 1 rfl
  have c2 := hk.cell_ 2 rfl
  have hmk : ∀ w, (Instr.makeSlice 25 (.int .i64 0) (.int .i64 l.length)).run Tryd.prog w = .ok (.slice (some ⟨w.heap.size, 0, none⟩) 0 l.length) (w.alloc (.cells (Array.replicate l.length (Value.int .i64 0)) 3)) := fun w => run_make0 (bytes := 8) Tryd.underlying25 (by kernel_rfl) rfl (by omega) _ (by omega) w
  go_upto_region 2 with fail
  have hO : Own (W.alloc (.cells (Array.replicate l.length (Value.int .i64 0)) 3)) W.heap.size 3 1 natEnc (.slice (some ⟨W.heap.size, 0, none⟩) 0 l.length) (List.range 0) := own_make0 (Nat.le_refl _) (by omega)
  have hL : Go.RowKit.Below W.heap.size W (W.alloc (.cells (Array.replicate l.length (Value.int .i64 0)) 3)) := (Go.RowKit.Below.refl _ W).alloc (Nat.le_refl _) _
  have hWz := hk.lt
  replace hk := hk.below hL hWz
  replace hB := hB.trans (hL.mono (Nat.le_of_lt hWz))
  clear c0 c1 c2 hmk
  obtain ⟨W0, rfl⟩ : ∃ X : World, X = W := ⟨_, rfl⟩
  generalize hA0 : (Value.slice (some ⟨W0.heap.size, 0, none⟩) 0 l.length) = v0 at *
  generalize W0.alloc (.cells (Array.replicate l.length (Value.int .i64 0)) 3) = W at *
  clear hA0
  have c0 := hk.cell_ 0 rfl
  have c1 := hk.cell_ 1 rfl
  have c2 := hk.cell_ 2 rfl
  go_wp2_with fail
  clear c0 c1 c2
  go_loopw [3, 12] (fun v y W => ∃ (i : Nat), y = .int .i64 i ∧ i ≤ l.length ∧ Blk W w.heap.size 24 #[.int .i64 L, .int .i64 K, .slice A l.length c] ∧ Own W W0.heap.size 3 1 natEnc v (List.range i) ∧ Go.RowKit.Below W0.heap.size W0 W ∧ Below w.heap.size w W) (fun v y _ => l.length - (intOf y).toNat)
  case atStart => exact ⟨0, rfl, Nat.zero_le _, hk, hO, hL, hB⟩
  case round =>
    clear hk hB hL hO
    obtain ⟨W, rfl⟩ : ∃ W : World, W = wr := ⟨_, rfl⟩
    obtain ⟨i, rfl, hi, hk, hO, hL, hB⟩ := hrel
    by_cases hlt : i < l.length
    · have hii : (i : Int) < (l.length : Int) := by omega
      have hLs := hL.size
      have hrl : (List.range i).length ≤ 1000000000 := by rw [List.length_range]; omega
      have c0 := hk.cell_ 0 rfl
      have c1 := hk.cell_ 1 rfl
      have c2 := hk.cell_ 2 rfl
      go_wp2_with (at_builtin; refine wpList_app _ _ rfl rfl et_ints hO rfl rfl (y := (i : Nat)) rfl rfl rfl (by omega) (by omega) ?_; intro v' W hO' hb hgt; clear c0 c1 c2; replace hk := hk.below hb (by omega); clear hO; have hO := hO'; clear hO'; replace hL := hL.trans (hb.mono (by first | exact Nat.le_refl _ | exact hL.size)); replace hB := hB.trans (hb.mono (by omega)); clear hb; have c0 := hk.cell_ 0 rfl; have c1 := hk.cell_ 1 rfl; have c2 := hk.cell_ 2 rfl)
      go_roundw
      case rel => exact ⟨i + 1, by go_num, by omega, hk, by rw [List.range_succ]; exact hO, hL, hB⟩
      case measure => simp [intOf]; omega
    · obtain rfl : i = l.length := by omega
      obtain ⟨A2, k2, rfl, hS2⟩ := hO.form fun _ => rfl
      rw [List.length_range] at hO ⊢
      have c0 := hk.cell_ 0 rfl
      have c1 := hk.cell_ 1 rfl
      have c2 := hk.cell_ 2 rfl
      by_cases hn : l.length = 0
      · have hnil : l = [] := List.length_eq_zero_iff.1 hn
        subst hnil
        clear hO hS2
        go_wp2_with fail
        refine (sortI0_any A2 k2 _ _).mono ?_
        rintro e w' ⟨rfl, rfl⟩
        go_wp2_with fail
        go_ret
        exact ⟨A2, k2, rfl, hB, Slc.nil_⟩
      · have hne : List.range l.length ≠ [] := by
          intro h
          have := congrArg List.length h
          rw [List.length_range] at this
          exact hn this
        obtain ⟨g, js7, rfl, hge, G⟩ := own_blk (g := fun x : Nat => Value.int .i64 (x : Int)) hO hne
        have C := sortG_any L K A c l w.heap.size W0.heap.size g k2 (List.range l.length) js7 W hne (fun x hx => List.mem_range.1 hx) (by rw [List.length_range]; omega) ((hS.below (hB.mono (Nat.le_refl _))).more (Nat.le_of_lt hWz)) hk hv hWz hge G
        rw [List.length_range] at C
        have C : Calls Tryd.prog 113 #[.slice (some ⟨g, 0, none⟩) l.length k2, .func (.func 114) #[] #[.pointer (some ⟨w.heap.size, 0, none⟩)]] W fun e w' => e = .returned (.tuple #[]) ∧ Go.RowKit.Below W0.heap.size W w' ∧ Slc intEnc 1 w' w'.heap.size (some ⟨g, 0, none⟩) ((fallG l).map fun x : Nat => (x : Int)) := C
        clear hO hS2 G
        go_wp2_with fail
        refine C.mono ?_
        rintro e W2 ⟨rfl, hb2, S⟩
        have hB2 := hB.trans (hb2.mono (Nat.le_of_lt hWz))
        clear C hk c0 c1
        go_wp2_with fail
        go_ret
        exact ⟨_, k2, rfl, hB2, S⟩
end Go.Proofs.YtecaaimaeaocbaaDoor
namespace Go.Proofs.YtecaaimaeaocbaaDoor
open Go Go.RowKit
def restF (l : List Ask) (v : Nat) (i : Nat) : List Nat := (List.range' i (l.length - i)).filter fun x => decide (lenF l x = (v : Nat))
theorem restF_zero (l : List Ask) (m : Nat) : catG l (m + 1) = restF l (m + 1) 0 ++ catG l m := by
  rw [catG, restF, List.range_eq_range', Nat.sub_zero]
theorem restF_step {l : List Ask} {v i : Nat} (h : i < l.length) : restF l v i = if lenF l i = (v : Nat) then i :: restF l v (i + 1) else restF l v (i + 1) := by
  unfold restF
  rw [show l.length - i = (l.length - (i + 1)) + 1 by omega, List.range'_succ, List.filter_cons]
  by_cases e : lenF l i = (v : Nat)
  · rw [if_pos (by simpa using e), if_pos e]
  · rw [if_neg (by simpa using e), if_neg e]
theorem restF_end (l : List Ask) (v : Nat) : restF l v l.length = [] := by unfold restF; rw [Nat.sub_self]; rfl
theorem pieces_append (l : List Ask) (a b : List Nat) : piecesG l (a ++ b) = piecesG l a ++ piecesG l b := by unfold piecesG; rw [List.flatMap_append]
def PiecesPost (l : List Ask) (w : World) (e : Ending) (w' : World) : Prop := ∃ A' c', e = .returned (.slice A' (queueG l).length c') ∧ Below w.heap.size w w' ∧ Slc intEnc 1 w' w'.heap.size A' ((queueG l).map fun x : Nat => (x : Int))
theorem slc_nat {w : World} {B : Nat} {A : Option Addr} {l : List Nat} (h : Slc natEnc 1 w B A l) : Slc intEnc 1 w B A (l.map fun x : Nat => (x : Int)) := fun i z hz => by
  rw [List.getElem?_map] at hz
  obtain ⟨x, hx, rfl⟩ := Option.map_eq_some_iff.1 hz
  obtain ⟨b, off, h1, h2, h3⟩ := h i x hx
  exact ⟨b, off, h1, h2, h3⟩
set_option maxRecDepth 100000 in
set_option maxHeartbeats 1000000 in
theorem pieces_any (L K : Int) (A : Option Addr) (c : Nat) (l : List Ask) (w : World) (hS : Slc Ask.enc 2 w w.heap.size A l) (hv : VK L K l) :
    Calls Tryd.prog 66 #[.agg #[.int .i64 L, .int .i64 K, .slice A l.length c]] w (PiecesPost l w) := by
  have hk := Blk.new w 24 #[.int .i64 L, .int .i64 K, .slice A l.length c]
  have hB := (Below.refl w.heap.size w).alloc (Nat.le_refl _) (.cells #[.int .i64 L, .int .i64 K, .slice A l.length c] 24)
  have hl8 := hv.few
  obtain ⟨m0, hm0⟩ : ∃ m : Nat, L = (m : Int) := ⟨L.toNat, by have := hv.hL; omega⟩
  have hm9 := hv.hL.2
  have HQ : Hid (queueG l = [] ++ piecesG l (catG l m0)) := by show _ = _; unfold queueG; rw [fall_cat hv (m := m0) (by omega)]; rfl
  have HQL := hide (queue_len hv)
  have HVA := hide hv.ask
  have HM := hide hm0
  have hm3 : m0 ≤ 1000 := by omega
  clear hv hm0
  go_enter Tryd.func66, Tryd.ntmps66
  go_upto_region 1 with fail
  generalize w.alloc (.cells #[.int .i64 L, .int .i64 K, .slice A l.length c] 24) = W at *
  have c0 := hk.cell_ 0 rfl
  have c1 := hk.cell_ 1 rfl
  have c2 := hk.cell_ 2 rfl
  have hWz := hk.lt
  have hL0 : ∀ X : World, X = W → Below X.heap.size X W := fun X h => by subst h; exact Below.refl _ _
  obtain ⟨W0, hW0⟩ : ∃ X : World, X = W := ⟨_, rfl⟩
  have hL := hL0 W0 hW0
  rw [← hW0] at hWz
  have hO : Own W W0.heap.size 3 1 natEnc (.slice none 0 0) [] := Own.nil_
  clear hL0 hW0
  go_wp2_with fail
  clear c0 c1 c2
  go_loopw [3, 4] (fun v y W => ∃ (m : Nat) (D : List Nat), y = .int .i64 m ∧ m ≤ m0 ∧ Hid (queueG l = D ++ piecesG l (catG l m)) ∧ Blk W w.heap.size 24 #[.int .i64 L, .int .i64 K, .slice A l.length c] ∧ Own W W0.heap.size 3 1 natEnc v D ∧ Below W0.heap.size W0 W ∧ Below w.heap.size w W) (fun v y _ => (intOf y).toNat)
  case atStart => exact ⟨m0, [], (by rw [HM.out]), Nat.le_refl _, HQ, hk, hO, hL, hB⟩
  case round =>
    clear hk hB hL hO HQ
    obtain ⟨W, rfl⟩ : ∃ W : World, W = wr := ⟨_, rfl⟩
    obtain ⟨m, D, rfl, hm, HQ, hk, hO, hL, hB⟩ := hrel
    have c0 := hk.cell_ 0 rfl
    have c1 := hk.cell_ 1 rfl
    have c2 := hk.cell_ 2 rfl
    by_cases hmz : m = 0
    · subst hmz
      have hQ := HQ.out
      rw [show piecesG l (catG l 0) = [] from rfl, List.append_nil] at hQ
      subst hQ
      obtain ⟨A2, k2, rfl, hS2⟩ := hO.form fun _ => rfl
      clear hO
      go_wp2_with fail
      go_ret
      exact ⟨A2, k2, rfl, hB, slc_nat hS2⟩
    · obtain ⟨p, hp⟩ : ∃ p, m = p + 1 := ⟨m - 1, by omega⟩
      have HQ1 : Hid (queueG l = D ++ (piecesG l (restF l m 0) ++ piecesG l (catG l p))) := by show _ = _; rw [HQ.out, hp, restF_zero, pieces_append]
      have hgt : (0 : Int) < (m : Int) := by omega
      have hgt2 : 0 < m := by omega
      have e4 : IntKind.i64.wrap ((m : Int) - 1) = (p : Int) := by rw [show (m : Int) - 1 = (p : Int) by omega]; exact IntWalk.i64_in _ (by omega)
      have HP := hide hp
      clear HQ hp
      go_wp2_with fail
      clear c0 c1 c2
      go_loopw [3, 5] (fun v y W => ∃ (i : Nat) (D : List Nat), y = .int .i64 i ∧ i ≤ l.length ∧ Hid (queueG l = D ++ (piecesG l (restF l m i) ++ piecesG l (catG l p))) ∧ Blk W w.heap.size 24 #[.int .i64 L, .int .i64 K, .slice A l.length c] ∧ Own W W0.heap.size 3 1 natEnc v D ∧ Below W0.heap.size W0 W ∧ Below w.heap.size w W) (fun v y _ => l.length - (intOf y).toNat)
      case atStart => exact ⟨0, D, rfl, Nat.zero_le _, HQ1, hk, hO, hL, hB⟩
      case round =>
        clear hk hB hL hO HQ1
        obtain ⟨W, rfl⟩ : ∃ W : World, W = wr := ⟨_, rfl⟩
        obtain ⟨i, D, rfl, hi, HQ, hk, hO, hL, hB⟩ := hrel
        have c0 := hk.cell_ 0 rfl
        have c1 := hk.cell_ 1 rfl
        have c2 := hk.cell_ 2 rfl
        by_cases hlt : i < l.length
        · have hii : (i : Int) < (l.length : Int) := by omega
          obtain ⟨a, ha⟩ : ∃ a, l[i]? = some a := ⟨_, List.getElem?_eq_getElem hlt⟩
          have HA := hide ha
          have hac := (HVA.out a (List.mem_of_getElem? ha)).2
          obtain ⟨k0, hk0⟩ : ∃ k : Nat, a.cnt = (k : Int) := ⟨a.cnt.toNat, by omega⟩
          have hk9 : k0 ≤ 50 := by omega
          have HCA : Hid (cntF l i = k0) := by show _ = _; rw [cntF_at ha, hk0]; rfl
          have HLA := hide (lenF_at ha)
          have HK0 := hide hk0
          clear ha hac hk0
          by_cases hlen : a.len = (m : Int)
          · have HQ2 : Hid (queueG l = D ++ (List.replicate (k0 - 0) i ++ (piecesG l (restF l m (i + 1)) ++ piecesG l (catG l p)))) := by
              show _ = _
              rw [HQ.out, restF_step hlt, if_pos (by rw [HLA.out, hlen]), pieces_cons, HCA.out, Nat.sub_zero, List.append_assoc]
            clear HQ
            go_wp2_with fail
            clear c0 c1 c2
            go_loopw [3, 6] (fun v y W => ∃ (k : Nat) (D : List Nat), y = .int .i64 k ∧ k ≤ k0 ∧ Hid (queueG l = D ++ (List.replicate (k0 - k) i ++ (piecesG l (restF l m (i + 1)) ++ piecesG l (catG l p)))) ∧ Blk W w.heap.size 24 #[.int .i64 L, .int .i64 K, .slice A l.length c] ∧ Own W W0.heap.size 3 1 natEnc v D ∧ Below W0.heap.size W0 W ∧ Below w.heap.size w W) (fun v y _ => k0 - (intOf y).toNat)
            case atStart => exact ⟨0, D, rfl, Nat.zero_le _, HQ2, hk, hO, hL, hB⟩
            case round =>
              clear hk hB hL hO HQ2
              obtain ⟨W, rfl⟩ : ∃ W : World, W = wr := ⟨_, rfl⟩
              obtain ⟨k, D, rfl, hkk, HQ, hk, hO, hL, hB⟩ := hrel
              obtain ⟨a', b, off, ha, hA, _, d0, d1⟩ := ask_at (hS.on hB) hlt
              obtain rfl : a' = a := by have h := ha; rw [HA.out] at h; injection h with h; exact h.symm
              rw [hlen] at d0
              rw [HK0.out] at d1
              have hmm : ((m : Int) == (m : Int)) = true := by simp
              clear ha
              subst hA
              have c0 := hk.cell_ 0 rfl
              have c1 := hk.cell_ 1 rfl
              have c2 := hk.cell_ 2 rfl
              by_cases hkl : k < k0
              · have hkk2 : (k : Int) < (k0 : Int) := by omega
                have HQ3 : Hid (queueG l = (D ++ [i]) ++ (List.replicate (k0 - (k + 1)) i ++ (piecesG l (restF l m (i + 1)) ++ piecesG l (catG l p)))) := by
                  show _ = _
                  rw [HQ.out, show k0 - k = (k0 - (k + 1)) + 1 by omega, List.replicate_succ]
                  simp
                have hDl : D.length ≤ 1000000000 := by
                  have := HQL.out
                  rw [HQ.out, List.length_append] at this
                  omega
                have hLs := hL.size
                go_wp2_with (at_builtin; refine wpList_app _ _ rfl rfl et_ints hO rfl rfl (y := (i : Nat)) rfl rfl rfl (by omega) (by omega) ?_; intro v' W hO' hb hgt; clear c0 c1 c2; replace hk := hk.below hb (by omega); clear hO; have hO := hO'; clear hO'; replace hL := hL.trans (hb.mono (by first | exact Nat.le_refl _ | exact hL.size)); replace hB := hB.trans (hb.mono (by omega)); clear hb; have c0 := hk.cell_ 0 rfl; have c1 := hk.cell_ 1 rfl; have c2 := hk.cell_ 2 rfl)
                go_roundw
                case rel => exact ⟨k + 1, _, by go_num, by omega, HQ3, hk, hO, hL, hB⟩
                case measure => simp [intOf]; omega
              · obtain rfl : k = k0 := by omega
                have HQ3 : Hid (queueG l = D ++ (piecesG l (restF l m (i + 1)) ++ piecesG l (catG l p))) := by show _ = _; rw [HQ.out, Nat.sub_self]; rfl
                go_wp2_with fail
                go_roundw
                case rel => exact ⟨i + 1, D, by go_num, by omega, HQ3, hk, hO, hL, hB⟩
                case measure => simp [intOf]; omega
          · have HQ2 : Hid (queueG l = D ++ (piecesG l (restF l m (i + 1)) ++ piecesG l (catG l p))) := by
              show _ = _
              rw [HQ.out, restF_step hlt, if_neg (by rw [HLA.out]; exact hlen)]
            obtain ⟨a', b, off, ha, hA, _, d0, d1⟩ := ask_at (hS.on hB) hlt
            obtain rfl : a' = a := by have h := ha; rw [HA.out] at h; injection h with h; exact h.symm
            have hmm : (a'.len == (m : Int)) = false := by simpa using hlen
            clear ha
            subst hA
            go_wp2_with fail
            refine wp_loop_rounds 1 ?_
            rw [rounds_succ]
            go_wp2_with fail
            go_roundw
            case rel => exact ⟨i + 1, D, by go_num, by omega, HQ2, hk, hO, hL, hB⟩
            case measure => simp [intOf]; omega
        · obtain rfl : i = l.length := by omega
          have HQ3 : Hid (queueG l = D ++ piecesG l (catG l p)) := by show _ = _; rw [HQ.out, restF_end]; rfl
          go_wp2_with fail
          go_roundw
          case rel => exact ⟨p, D, by go_num, by have := HP.out; omega, HQ3, hk, hO, hL, hB⟩
          case measure => have := HP.out; simp [intOf]; omega
end Go.Proofs.YtecaaimaeaocbaaDoor
