/- right of package shop: the plan's steps in the order of their starts. -/
import Derived.Test.YtcpnfcnobnjhdaaSortP
import Derived.Test.YtcpnfcnobnjhdaaStabSAt
import Derived.Test.YtcpnfcnobnjhdaaWide
import Derived.Test.YtcpnfcnobnjhdaaChg
namespace Go.Proofs.Ytcpnfcnobnjhdaa
open Go Go.Sort Go.RowKit StabAt
theorem isNaN_any (a : Int) (w : World) : Calls Try.prog 92 #[.int .i64 a] w fun e w' => e = .returned (.bool false) ∧ w = w' := by
  go_enter Try.func92, Try.ntmps92
  go_wp2
  go_ret
  exact ⟨by simp, rfl⟩
theorem compare_any (a b : Int) (w : World) : Calls Try.prog 90 #[.int .i64 a, .int .i64 b] w fun e w' => e = .returned (.int .i64 (cmpI a b)) ∧ w = w' := by
  have HC : Hid (cmpI a b = if a < b then -1 else if b < a then 1 else 0) := rfl
  by_cases h1 : a < b
  · go_enter Try.func90, Try.ntmps90
    go_wp2_with fail
    refine (isNaN_any _ _).mono ?_
    rintro e W' ⟨rfl, rfl⟩
    go_wp2_with fail
    refine (isNaN_any _ _).mono ?_
    rintro e W' ⟨rfl, rfl⟩
    go_wp2_with fail
    go_ret
    exact ⟨ret_int (by rw [HC.out, if_pos h1]), rfl⟩
  · by_cases h2 : b < a
    · go_enter Try.func90, Try.ntmps90
      go_wp2_with fail
      refine (isNaN_any _ _).mono ?_
      rintro e W' ⟨rfl, rfl⟩
      go_wp2_with fail
      refine (isNaN_any _ _).mono ?_
      rintro e W' ⟨rfl, rfl⟩
      go_wp2_with fail
      go_ret
      exact ⟨ret_int (by rw [HC.out, if_neg (by omega), if_pos h2]), rfl⟩
    · go_enter Try.func90, Try.ntmps90
      go_wp2_with fail
      refine (isNaN_any _ _).mono ?_
      rintro e W' ⟨rfl, rfl⟩
      go_wp2_with fail
      refine (isNaN_any _ _).mono ?_
      rintro e W' ⟨rfl, rfl⟩
      go_wp2_with fail
      go_ret
      exact ⟨ret_int (by rw [HC.out, if_neg (by omega), if_neg (by omega)]), rfl⟩
theorem before_any (x y : At) (w : World) : Calls Try.prog 83 #[.agg #[.int .i64 x.j, .int .i64 x.k, .int .i64 x.t, .int .i64 x.x.m, .int .i64 x.x.mi, .int .i64 x.x.c, .int .i64 x.x.d], .agg #[.int .i64 y.j, .int .i64 y.k, .int .i64 y.t, .int .i64 y.x.m, .int .i64 y.x.mi, .int .i64 y.x.c, .int .i64 y.x.d]] w fun e w' => e = .returned (.int .i64 (cmpI x.t y.t)) ∧ (w.alloc (.cells #[.int .i64 x.j, .int .i64 x.k, .int .i64 x.t, .int .i64 x.x.m, .int .i64 x.x.mi, .int .i64 x.x.c, .int .i64 x.x.d] 91)).alloc (.cells #[.int .i64 y.j, .int .i64 y.k, .int .i64 y.t, .int .i64 y.x.m, .int .i64 y.x.mi, .int .i64 y.x.c, .int .i64 y.x.d] 91) = w' := by
  go_enter Try.func83, Try.ntmps83
  go_wp2_with fail
  refine (compare_any _ _ _).mono ?_
  rintro e w' ⟨rfl, rfl⟩
  go_wp2_with fail
  go_ret
  exact ⟨rfl, rfl⟩
theorem cmp_at (blk off size : Nat) (w : World) : Cmp Try.prog 83 #[] (encT At.enc) 7 (cfT cfA) blk off size w := fun m os dk _ x y => by
  refine (before_any x.1 y.1 _).mono fun e w' ⟨he, hw⟩ => ⟨he, 0, #[.cells #[.int .i64 x.1.j, .int .i64 x.1.k, .int .i64 x.1.t, .int .i64 x.1.x.m, .int .i64 x.1.x.mi, .int .i64 x.1.x.c, .int .i64 x.1.x.d] 91, .cells #[.int .i64 y.1.j, .int .i64 y.1.k, .int .i64 y.1.t, .int .i64 y.1.x.m, .int .i64 y.1.x.mi, .int .i64 y.1.x.c, .int .i64 y.1.x.d] 91], ?_⟩
  rw [← hw, alloc_eq_grow, alloc_eq_grow, grow_grow]
  rfl
theorem lay_at : Lay Try.prog 7 := by
  constructor
  all_goals first | (by_cases True <;> kernel_rfl) | (intros; kernel_rfl) | kernel_rfl
/-- the cells that the list owns are what the sort asks for -/
theorem holds_of {w : World} {base g c : Nat} {l : List At} (h : Own w base 91 7 At.enc (.slice (some ⟨g, 0, none⟩) l.length c) l) (hl : 0 < l.length) : HoldsK (encT At.enc) 7 w g 0 (tagged l) := by
  rcases h.2 with ⟨h1, _⟩ | ⟨g', cap, cur, h1, h2, h3, h4, h5, h6, h7⟩
  · cases h1
  · injection h1 with h1
    injection h1 with h1
    injection h1 with h1
    subst h1
    intro j hj
    have hj' : j < l.length * 7 := by simpa [flatK, tagged_size] using hj
    have hi : j / 7 < l.length := by omega
    have hli : l[j / 7]? = some l[j / 7] := List.getElem?_eq_getElem hi
    have hf : (flatK (encT At.enc) 7 (tagged l))[j]! = (At.enc l[j / 7])[j % 7]! := by
      rw [get_flatK _ _ _ _ (by rw [tagged_size]; exact hj'), tagged_at hli]
      rfl
    have hen : (At.enc l[j / 7])[j % 7]? = some (At.enc l[j / 7])[j % 7]! := by
      have : j % 7 < 7 := Nat.mod_lt _ (by omega)
      generalize j % 7 = q at *
      match q, this with
      | 0, _ => rfl
      | 1, _ => rfl
      | 2, _ => rfl
      | 3, _ => rfl
      | 4, _ => rfl
      | 5, _ => rfl
      | 6, _ => rfl
    have h8 := flat_at (n := 7) (fun _ => rfl) l (j / 7) _ hli (j % 7) _ hen
    rw [show j / 7 * 7 + j % 7 = j by omega, ← h7, List.getElem?_take, if_pos hj'] at h8
    refine ⟨?_, ?_⟩
    · rw [cell_of_row w g _ cur 91 (0, 0) h3, hf]
      simpa using h8
    · exact frozen_of_row w g _ cur 91 h3
theorem below_sw {w : World} {enc : At × Nat → List Value} {B g off m : Nat} {dk : Array (At × Nat)} {os : Array Obj} (hB : B ≤ g) (hg : g < w.heap.size) : Below B w (sortWorldK enc 7 w g off m dk os) := by
  refine ⟨rfl, rfl, rfl, size_sortWorldK_c _ _ _ _ _ _ _ _, fun k hk => ?_⟩
  unfold sortWorldK
  rw [heap_grow_old _ _ (by rw [size_putRowK]; show k < w.heap.size; omega)]
  unfold putRowK putRow mapBlock
  simp only [Array.getElem?_modify]
  rw [if_neg (by omega)]
  rfl
/-- the sort of a list that the call owns -/
theorem sortAt_any {base : Nat} {l : List At} {g c : Nat} (w : World) (h : Own w base 91 7 At.enc (.slice (some ⟨g, 0, none⟩) l.length c) l) (hl : 0 < l.length) (hn : l.length ≤ 1000000) (hb : base ≤ g) (hg : g < w.heap.size) :
    Calls Try.prog 82 #[.slice (some ⟨g, 0, none⟩) l.length c, .func (.func 83) #[] #[]] w fun e w' => e = .returned (.tuple #[]) ∧ Below base w w' ∧ Slc At.enc 7 w' w'.heap.size (some ⟨g, 0, none⟩) (sortA l) := by
  have hH := holds_of h hl
  have C := sortStable_any lay_at At.enc (fun _ => rfl) (fun x v hv => by
    simp only [At.enc, List.mem_cons, List.not_mem_nil, or_false] at hv
    rcases hv with rfl | rfl | rfl | rfl | rfl | rfl | rfl <;> rfl) cfA swoA 83 #[] g 0 c (tagged l) w (fun _ _ => by kernel_rfl) (cmp_at g 0 _ w) hH hg (by rw [tagged_size]; omega) (fun i hi => by
      rw [tagged_size] at hi
      rw [tagged_at (List.getElem?_eq_getElem hi)])
  rw [tagged_size] at C
  refine C.mono fun e w' ⟨he, q, r, os, hw, hp, ht⟩ => ⟨he, ?_, ?_⟩
  · rw [hw]; exact below_sw hb hg
  · have hs : r.size = l.length := by rw [hp.1, tagged_size]
    have hH2 : HoldsK (encT At.enc) 7 w' g 0 r := by rw [hw]; exact holdsK_sortWorldK_c _ 7 w g 0 (tagged l) r q os hH hg (by rw [hs, tagged_size])
    have he2 := sorted_eq hp ht
    have hlt : g < w'.heap.size := by rw [hw]; exact Nat.lt_of_lt_of_le hg (size_sortWorldK_c _ _ _ _ _ _ _ _)
    intro i x hx
    rw [← he2, List.getElem?_map] at hx
    have hi : i < r.size := by
      cases hq : r.toList[i]? with
      | none => rw [hq] at hx; cases hx
      | some y => have := (List.getElem?_eq_some_iff.1 hq).1; simpa using this
    have hri : r.toList[i]? = some r[i]! := by rw [getElem!_pos r i hi]; simp [hi]
    rw [hri] at hx
    injection hx with hx
    refine ⟨g, 0, rfl, hlt, fun j v hv => ?_⟩
    have hj : j < 7 := by have := (List.getElem?_eq_some_iff.1 hv).1; simpa [At.enc] using this
    have := (hH2.cell (i := i) (c := j) hi hj).1
    rw [this]
    subst hx
    show some ((At.enc r[i]!.1)[j]!) = some v
    rw [List.getElem!_eq_getElem?_getD, hv]
    rfl
/-- nothing to sort -/
theorem ins0_any (A : Option Addr) (c : Nat) (w : World) : Calls Try.prog 93 #[.slice A 0 c, .int .i64 0, .int .i64 0, .func (.func 83) #[] #[]] w fun e w' => e = .returned (.tuple #[]) ∧ w = w' := by
  go_enter Try.func93, Try.ntmps93
  go_wp2
  refine wp_loop_rounds 1 ?_
  rw [rounds_succ]
  go_wp2_with fail
  go_end0
  exact ⟨rfl, rfl⟩
theorem stable0_any (A : Option Addr) (c : Nat) (w : World) : Calls Try.prog 89 #[.slice A 0 c, .int .i64 0, .func (.func 83) #[] #[]] w fun e w' => e = .returned (.tuple #[]) ∧ w = w' := by
  go_enter Try.func89, Try.ntmps89
  go_wp2
  refine wp_loop_rounds 1 ?_
  rw [rounds_succ]
  go_wp2_with fail
  refine (ins0_any A c _).mono ?_
  rintro e w' ⟨rfl, rfl⟩
  go_wp2_with fail
  refine wp_loop_rounds 1 ?_
  rw [rounds_succ]
  go_wp2_with fail
  go_end0
  exact ⟨rfl, rfl⟩
theorem sort0_any (A : Option Addr) (c : Nat) (w : World) : Calls Try.prog 82 #[.slice A 0 c, .func (.func 83) #[] #[]] w fun e w' => e = .returned (.tuple #[]) ∧ w = w' := by
  go_enter Try.func82, Try.ntmps82
  go_wp2_with fail
  refine (stable0_any A c _).mono ?_
  rintro e w' ⟨rfl, rfl⟩
  go_wp2_with fail
  go_end0
  exact ⟨rfl, rfl⟩
/-- what right returns: the error of the judge, or the steps in ascending order of their starts -/
def RightPost (p : Shop) (pl : List (List Int)) (w : World) (e : Ending) (w' : World) : Prop :=
  Below w.heap.size w w' ∧ (((judgeF p pl).2.2 ≠ 0 ∧ e = .returned (.tuple #[.slice none 0 0, .int .i64 (judgeF p pl).2.2])) ∨
    ((judgeF p pl).2.2 = 0 ∧ ∃ A c, e = .returned (.tuple #[.slice A (sortA (ats p pl)).length c, .int .i64 0]) ∧ Slc At.enc 7 w' w'.heap.size A (sortA (ats p pl))))
theorem judge_shaped {p : Shop} {pl : List (List Int)} (h : (judgeF p pl).2.2 = 0) : shapedB p pl = true := by
  unfold judgeF at h
  split at h
  · assumption
  · cases h
set_option maxRecDepth 100000 in
set_option maxHeartbeats 2000000 in
theorem right_any (s : Sh) (A : Option Addr) (c : Nat) (pl : List (List Int)) (w : World) (hS : ShAt w w.heap.size s) (hvB : validShop s.p = true) (hP : Plan w w.heap.size A pl) (hf : PFits pl) :
    Calls Try.prog 67 #[.agg #[.int .i64 s.p.op, .int .i64 s.p.cl, .slice s.aH s.p.hol.length s.cH, .int .i64 s.p.mach, .slice s.aS s.p.setup.length s.cS, .slice s.aJ s.p.jobs.length s.cJ], .slice A pl.length c] w (RightPost s.p pl w) := by
  have hv := valid_facts hvB
  have hfs := hv.fits
  have hen := ents_len hv
  have hal := ats_len s.p pl
  have HV3 : Hid (V3 (judgeF s.p pl) = .tuple #[.int .i64 (judgeF s.p pl).1, .int .i64 (judgeF s.p pl).2.1, .int .i64 (judgeF s.p pl).2.2]) := rfl
  have hk := Blk.new w 25 #[.int .i64 s.p.op, .int .i64 s.p.cl, .slice s.aH s.p.hol.length s.cH, .int .i64 s.p.mach, .slice s.aS s.p.setup.length s.cS, .slice s.aJ s.p.jobs.length s.cJ]
  have hB := (Below.refl w.heap.size w).alloc (Nat.le_refl _) (.cells #[.int .i64 s.p.op, .int .i64 s.p.cl, .slice s.aH s.p.hol.length s.cH, .int .i64 s.p.mach, .slice s.aS s.p.setup.length s.cS, .slice s.aJ s.p.jobs.length s.cJ] 25)
  go_enter Try.func67, Try.ntmps67
  go_wp2_with fail
  generalize w.alloc (.cells #[.int .i64 s.p.op, .int .i64 s.p.cl, .slice s.aH s.p.hol.length s.cH, .int .i64 s.p.mach, .slice s.aS s.p.setup.length s.cS, .slice s.aJ s.p.jobs.length s.cJ] 25) = W at *
  have c0 := hk.cell_ 0 rfl
  have c1 := hk.cell_ 1 rfl
  have c2 := hk.cell_ 2 rfl
  have c3 := hk.cell_ 3 rfl
  have c4 := hk.cell_ 4 rfl
  have c5 := hk.cell_ 5 rfl
  go_wp2_with fail
  refine (valid_any s _ (hS.on hB) hfs.h1 hfs.h2 hfs.h3 hfs.h4).mono ?_
  rintro e W ⟨rfl, hb⟩
  clear c0 c1 c2 c3 c4 c5
  replace hk := hk.below hb hk.lt
  replace hB := hB.trans (hb.mono hB.size)
  clear hb
  have c0 := hk.cell_ 0 rfl
  have c1 := hk.cell_ 1 rfl
  have c2 := hk.cell_ 2 rfl
  have c3 := hk.cell_ 3 rfl
  have c4 := hk.cell_ 4 rfl
  have c5 := hk.cell_ 5 rfl
  rw [hvB]
  go_wp2_with fail
  refine (judge_any s A c pl _ (hS.on hB) hv (hP.on hB) hf).mono ?_
  rintro e W ⟨rfl, hb⟩
  clear c0 c1 c2 c3 c4 c5
  replace hk := hk.below hb hk.lt
  replace hB := hB.trans (hb.mono hB.size)
  clear hb
  have c0 := hk.cell_ 0 rfl
  have c1 := hk.cell_ 1 rfl
  have c2 := hk.cell_ 2 rfl
  have c3 := hk.cell_ 3 rfl
  have c4 := hk.cell_ 4 rfl
  have c5 := hk.cell_ 5 rfl
  rw [HV3.out]
  by_cases hz : (judgeF s.p pl).2.2 = 0
  · have hp := shaped_facts (judge_shaped hz)
    rw [hz]
    have HZ := hide hz
    clear hz
    have hsz := hB.size
    go_wp2_with fail
    refine (list_any s A c pl _ (hS.on hB) hv (hP.on hB) hp).mono ?_
    rintro e W ⟨v, rfl, hb, hO⟩
    clear c0 c1 c2 c3 c4 c5
    replace hk := hk.below hb hk.lt
    replace hB := hB.trans (hb.mono hB.size)
    clear hb
    have c0 := hk.cell_ 0 rfl
    have c1 := hk.cell_ 1 rfl
    have c2 := hk.cell_ 2 rfl
    have c3 := hk.cell_ 3 rfl
    have c4 := hk.cell_ 4 rfl
    have c5 := hk.cell_ 5 rfl
    obtain ⟨base, hbase, hO⟩ : ∃ base, w.heap.size ≤ base ∧ Own W base 91 7 At.enc v (ats s.p pl) := ⟨_, hsz, hO⟩
    clear hsz
    rcases Nat.eq_zero_or_pos (ats s.p pl).length with h0 | h0
    · obtain ⟨AL, cL, rfl, hL⟩ := hO.form fun _ => rfl
      have hnil : ats s.p pl = [] := List.length_eq_zero_iff.1 h0
      have HN := hide hnil
      rw [h0]
      clear h0 hnil hal hO hL
      go_wp2_with fail
      refine (sort0_any AL cL _).mono ?_
      rintro e W' ⟨rfl, rfl⟩
      go_wp2_with fail
      go_ret2
      exact ⟨hB, .inr ⟨HZ.out, AL, cL, by rw [HN.out]; rfl, by rw [HN.out]; exact Slc.nil_⟩⟩
    · obtain ⟨g, cL, rfl, hbg, hgl⟩ := hO.at_ h0
      have HO := hide hO
      have HA := hide h0
      have hsl := sortA_len (ats s.p pl)
      have HSL := hide hsl
      have hal2 : (ats s.p pl).length ≤ 96 := by omega
      clear hO h0 hsl hal
      go_wp2_with fail
      refine (sortAt_any _ HO.out HA.out (by omega) hbg hgl).mono ?_
      rintro e W' ⟨rfl, hb, hL⟩
      have hB2 := hB.trans (hb.mono hbase)
      clear hB hk hb
      go_wp2_with fail
      go_ret2
      exact ⟨hB2, .inr ⟨HZ.out, some ⟨g, 0, none⟩, cL, by rw [HSL.out]; rfl, hL⟩⟩
  · have hzb : ((judgeF s.p pl).2.2 != 0) = true := by simpa using hz
    have HZ := hide hz
    clear hz
    go_wp2_with fail
    go_ret2
    exact ⟨hB, .inl ⟨HZ.out, rfl⟩⟩
end Go.Proofs.Ytcpnfcnobnjhdaa
