/- Parts of the proofs of this seat: SortP, Right, EndP. Each part says what it proves; no condition beyond those stated there. -/
import Derived.Test.YtcpnfcnobnjhdaaB1
import Derived.Test.YtcpnfcnobnjhdaaB8
import Derived.Test.YtcpnfcnobnjhdaaB11

/- The steps in the order of their starts: the plain words. -/
namespace Go.Proofs.Ytcpnfcnobnjhdaa
open Go Go.Sort Go.RowKit StabAt
def cmpI (a b : Int) : Int := if a < b then -1 else if b < a then 1 else 0
def cfA (x y : At) : Int := cmpI x.t y.t
theorem ltA {x y : At} : ltF cfA x y = decide (x.t < y.t) := by
  unfold ltF cfA cmpI
  by_cases h : x.t < y.t
  · simp [h]
  · by_cases h2 : y.t < x.t <;> simp [h, h2]
theorem swoA : SWO (ltF cfA) := by
  refine ⟨fun x => by rw [ltA]; simp, fun x y z h1 h2 => ?_, fun x y z h1 h2 => ?_⟩ <;> rw [ltA] at * <;> simp at * <;> omega
def TA (x y : At × Nat) : Prop := x.1.t < y.1.t ∨ (x.1.t = y.1.t ∧ x.2 < y.2)
theorem ta_of {x y : At × Nat} (h : TL (ltF cfA) x y) : TA x y := by
  unfold TL at h
  rw [ltA, ltA] at h
  simp at h
  unfold TA
  omega
def insA (a : At) : List At → List At
  | [] => [a]
  | b :: r => if a.t < b.t then a :: b :: r else b :: insA a r
def sortA (l : List At) : List At := l.foldl (fun acc a => insA a acc) []
def insT (a : At × Nat) : List (At × Nat) → List (At × Nat)
  | [] => [a]
  | b :: r => if a.1.t < b.1.t then a :: b :: r else b :: insT a r
theorem insT_map (a : At × Nat) : ∀ l, (insT a l).map (·.1) = insA a.1 (l.map (·.1))
  | [] => rfl
  | b :: r => by
    unfold insT
    simp only [List.map_cons]
    rw [insA]
    split
    · rfl
    · rw [List.map_cons, insT_map a r]
theorem insT_perm (a : At × Nat) : ∀ l, (insT a l).Perm (a :: l)
  | [] => List.Perm.refl _
  | b :: r => by
    unfold insT
    split
    · exact List.Perm.refl _
    · exact ((insT_perm a r).cons b).trans (List.Perm.swap a b r)
theorem insT_sorted (a : At × Nat) : ∀ l : List (At × Nat), l.Pairwise TA → (∀ b ∈ l, b.2 < a.2) → (insT a l).Pairwise TA
  | [], _, _ => by simp [insT]
  | b :: r, h, ht => by
    unfold insT
    have h1 := List.pairwise_cons.1 h
    split
    · rename_i hlt
      refine List.pairwise_cons.2 ⟨fun c hc => ?_, h⟩
      rcases List.mem_cons.1 hc with rfl | hc
      · exact .inl hlt
      · have := h1.1 c hc
        unfold TA at this ⊢
        omega
    · rename_i hge
      refine List.pairwise_cons.2 ⟨fun c hc => ?_, insT_sorted a r h1.2 fun c hc => ht c (by simp [hc])⟩
      rcases List.mem_cons.1 ((insT_perm a r).subset hc) with rfl | hc
      · have := ht b (by simp)
        unfold TA
        omega
      · exact h1.1 c hc
theorem fold_sorted : ∀ (l : List At) (n : Nat) (acc : List (At × Nat)), acc.Pairwise TA → (∀ b ∈ acc, b.2 < n) →
    ∃ s : List (At × Nat), s.Pairwise TA ∧ s.Perm (acc ++ l.zipIdx n) ∧ s.map (·.1) = l.foldl (fun acc a => insA a acc) (acc.map (·.1))
  | [], n, acc, h, _ => ⟨acc, h, by simp, rfl⟩
  | a :: l, n, acc, h, ht => by
    obtain ⟨s, h1, h2, h3⟩ := fold_sorted l (n + 1) (insT (a, n) acc) (insT_sorted _ _ h ht) (fun b hb => by
      rcases List.mem_cons.1 ((insT_perm (a, n) acc).subset hb) with rfl | hb
      · exact Nat.lt_succ_self _
      · exact Nat.lt_succ_of_lt (ht b hb))
    refine ⟨s, h1, h2.trans ?_, by rw [h3, insT_map]; rfl⟩
    rw [List.zipIdx_cons]
    exact ((insT_perm (a, n) acc).append_right _).trans (List.perm_middle (l₁ := acc)).symm
def tagged (l : List At) : Array (At × Nat) := (l.zipIdx).toArray
theorem tagged_size (l : List At) : (tagged l).size = l.length := by simp [tagged]
theorem tagged_at {l : List At} {i : Nat} {a : At} (h : l[i]? = some a) : (tagged l)[i]! = (a, i) := by
  have hi := (List.getElem?_eq_some_iff.1 h).1
  rw [getElem!_pos _ _ (by simpa [tagged] using hi)]
  simp [tagged, (List.getElem?_eq_some_iff.1 h).2]
/-- the tagged steps in ascending order are one list -/
theorem sorted_eq {l : List At} {r : Array (At × Nat)} (hp : PermIn 0 l.length (tagged l) r) (ht : TS (ltF cfA) 0 l.length r) : r.toList.map (·.1) = sortA l := by
  obtain ⟨s, h1, h2, h3⟩ := fold_sorted l 0 [] List.Pairwise.nil (fun b hb => by cases hb)
  obtain ⟨hs, _, hq⟩ := hp
  rw [tagged_size] at hs
  have e1 : (r.extract 0 l.length).toList = r.toList := by simp [← hs]
  have e2 : ((tagged l).extract 0 l.length).toList = l.zipIdx := by
    simp only [tagged, List.extract_toArray, List.extract_eq_take_drop, List.drop_zero, Nat.sub_zero]
    exact List.take_of_length_le (by simp)
  rw [e1, e2] at hq
  have hr : r.toList.Pairwise TA := by
    rw [List.pairwise_iff_getElem]
    intro i j hi hj hij
    have hj' : j < r.size := by simpa using hj
    have hi' : i < r.size := by simpa using hi
    have := ht i j (Nat.zero_le _) hij (by omega)
    rw [getElem!_pos r i hi', getElem!_pos r j hj'] at this
    simpa using ta_of this
  have : r.toList = s := by
    refine List.Perm.eq_of_pairwise (le := TA) (fun a b _ _ g1 g2 => ?_) hr h1 (hq.trans (by simpa using h2.symm))
    unfold TA at g1 g2
    omega
  rw [this, h3]
  rfl
theorem insA_len (a : At) : ∀ l, (insA a l).length = l.length + 1
  | [] => rfl
  | b :: r => by
    unfold insA
    split
    · rfl
    · simp [insA_len a r]
theorem sortA_len_ : ∀ (l acc : List At), (l.foldl (fun acc a => insA a acc) acc).length = acc.length + l.length
  | [], acc => by simp
  | a :: l, acc => by
    rw [List.foldl_cons, sortA_len_ l, insA_len, List.length_cons]; omega
theorem sortA_len (l : List At) : (sortA l).length = l.length := by unfold sortA; rw [sortA_len_]; simp
end Go.Proofs.Ytcpnfcnobnjhdaa

/- right of package shop: the plan's steps in the order of their starts. -/
namespace Go.Proofs.Ytcpnfcnobnjhdaa
open Go Go.Sort Go.RowKit StabAt
theorem isNaN_any (a : Int) (w : World) : Calls Try.prog 92 #[.int .i64 a] w fun e w' => e = .returned (.bool false) ∧ w = w' := by
  go_enter Try.func92, Try.ntmps92
  go_wp2
  go_ret
  exact ⟨by simp, rfl⟩
theorem compare_any (a b : Int) (w : World) : Calls Try.prog 90 #[.int .i64 a, .int .i64 b] w fun e w' => e = .returned (.int .i64 (cmpI a b)) ∧ w = w' := by
  have HC : Hid (cmpI a b = if a < b then -1 else if b < a then 1 else 0) := rfl
  by_cases h1 : a < b
  · go_enter Try.func90, Try.ntmps90
    go_wp2_with fail
    refine (isNaN_any _ _).mono ?_
    rintro e W' ⟨rfl, rfl⟩
    go_wp2_with fail
    refine (isNaN_any _ _).mono ?_
    rintro e W' ⟨rfl, rfl⟩
    go_wp2_with fail
    go_ret
    exact ⟨ret_int (by rw [HC.out, if_pos h1]), rfl⟩
  · by_cases h2 : b < a
    · go_enter Try.func90, Try.ntmps90
      go_wp2_with fail
      refine (isNaN_any _ _).mono ?_
      rintro e W' ⟨rfl, rfl⟩
      go_wp2_with fail
      refine (isNaN_any _ _).mono ?_
      rintro e W' ⟨rfl, rfl⟩
      go_wp2_with fail
      go_ret
      exact ⟨ret_int (by rw [HC.out, if_neg (by omega), if_pos h2]), rfl⟩
    · go_enter Try.func90, Try.ntmps90
      go_wp2_with fail
      refine (isNaN_any _ _).mono ?_
      rintro e W' ⟨rfl, rfl⟩
      go_wp2_with fail
      refine (isNaN_any _ _).mono ?_
      rintro e W' ⟨rfl, rfl⟩
      go_wp2_with fail
      go_ret
      exact ⟨ret_int (by rw [HC.out, if_neg (by omega), if_neg (by omega)]), rfl⟩
theorem before_any (x y : At) (w : World) : Calls Try.prog 83 #[.agg #[.int .i64 x.j, .int .i64 x.k, .int .i64 x.t, .int .i64 x.x.m, .int .i64 x.x.mi, .int .i64 x.x.c, .int .i64 x.x.d], .agg #[.int .i64 y.j, .int .i64 y.k, .int .i64 y.t, .int .i64 y.x.m, .int .i64 y.x.mi, .int .i64 y.x.c, .int .i64 y.x.d]] w fun e w' => e = .returned (.int .i64 (cmpI x.t y.t)) ∧ (w.alloc (.cells #[.int .i64 x.j, .int .i64 x.k, .int .i64 x.t, .int .i64 x.x.m, .int .i64 x.x.mi, .int .i64 x.x.c, .int .i64 x.x.d] 91)).alloc (.cells #[.int .i64 y.j, .int .i64 y.k, .int .i64 y.t, .int .i64 y.x.m, .int .i64 y.x.mi, .int .i64 y.x.c, .int .i64 y.x.d] 91) = w' := by
  go_enter Try.func83, Try.ntmps83
  go_wp2_with fail
  refine (compare_any _ _ _).mono ?_
  rintro e w' ⟨rfl, rfl⟩
  go_wp2_with fail
  go_ret
  exact ⟨rfl, rfl⟩
theorem cmp_at (blk off size : Nat) (w : World) : Cmp Try.prog 83 #[] (encT At.enc) 7 (cfT cfA) blk off size w := fun m os dk _ x y => by
  refine (before_any x.1 y.1 _).mono fun e w' ⟨he, hw⟩ => ⟨he, 0, #[.cells #[.int .i64 x.1.j, .int .i64 x.1.k, .int .i64 x.1.t, .int .i64 x.1.x.m, .int .i64 x.1.x.mi, .int .i64 x.1.x.c, .int .i64 x.1.x.d] 91, .cells #[.int .i64 y.1.j, .int .i64 y.1.k, .int .i64 y.1.t, .int .i64 y.1.x.m, .int .i64 y.1.x.mi, .int .i64 y.1.x.c, .int .i64 y.1.x.d] 91], ?_⟩
  rw [← hw, alloc_eq_grow, alloc_eq_grow, grow_grow]
  rfl
theorem lay_at : Lay Try.prog 7 := by
  constructor
  all_goals first | (by_cases True <;> kernel_rfl) | (intros; kernel_rfl) | kernel_rfl
/-- the cells that the list owns are what the sort asks for -/
theorem holds_of {w : World} {base g c : Nat} {l : List At} (h : Own w base 91 7 At.enc (.slice (some ⟨g, 0, none⟩) l.length c) l) (hl : 0 < l.length) : HoldsK (encT At.enc) 7 w g 0 (tagged l) := by
  rcases h.2 with ⟨h1, _⟩ | ⟨g', cap, cur, h1, h2, h3, h4, h5, h6, h7⟩
  · cases h1
  · injection h1 with h1
    injection h1 with h1
    injection h1 with h1
    subst h1
    intro j hj
    have hj' : j < l.length * 7 := by simpa [flatK, tagged_size] using hj
    have hi : j / 7 < l.length := by omega
    have hli : l[j / 7]? = some l[j / 7] := List.getElem?_eq_getElem hi
    have hf : (flatK (encT At.enc) 7 (tagged l))[j]! = (At.enc l[j / 7])[j % 7]! := by
      rw [get_flatK _ _ _ _ (by rw [tagged_size]; exact hj'), tagged_at hli]
      rfl
    have hen : (At.enc l[j / 7])[j % 7]? = some (At.enc l[j / 7])[j % 7]! := by
      have : j % 7 < 7 := Nat.mod_lt _ (by omega)
      generalize j % 7 = q at *
      match q, this with
      | 0, _ => rfl
      | 1, _ => rfl
      | 2, _ => rfl
      | 3, _ => rfl
      | 4, _ => rfl
      | 5, _ => rfl
      | 6, _ => rfl
    have h8 := flat_at (n := 7) (fun _ => rfl) l (j / 7) _ hli (j % 7) _ hen
    rw [show j / 7 * 7 + j % 7 = j by omega, ← h7, List.getElem?_take, if_pos hj'] at h8
    refine ⟨?_, ?_⟩
    · rw [cell_of_row w g _ cur 91 (0, 0) h3, hf]
      simpa using h8
    · exact frozen_of_row w g _ cur 91 h3
theorem below_sw {w : World} {enc : At × Nat → List Value} {B g off m : Nat} {dk : Array (At × Nat)} {os : Array Obj} (hB : B ≤ g) (hg : g < w.heap.size) : Below B w (sortWorldK enc 7 w g off m dk os) := by
  refine ⟨rfl, rfl, rfl, size_sortWorldK_c _ _ _ _ _ _ _ _, fun k hk => ?_⟩
  unfold sortWorldK
  rw [heap_grow_old _ _ (by rw [size_putRowK]; show k < w.heap.size; omega)]
  unfold putRowK putRow mapBlock
  simp only [Array.getElem?_modify]
  rw [if_neg (by omega)]
  rfl
/-- the sort of a list that the call owns -/
theorem sortAt_any {base : Nat} {l : List At} {g c : Nat} (w : World) (h : Own w base 91 7 At.enc (.slice (some ⟨g, 0, none⟩) l.length c) l) (hl : 0 < l.length) (hn : l.length ≤ 1000000) (hb : base ≤ g) (hg : g < w.heap.size) :
    Calls Try.prog 82 #[.slice (some ⟨g, 0, none⟩) l.length c, .func (.func 83) #[] #[]] w fun e w' => e = .returned (.tuple #[]) ∧ Below base w w' ∧ Slc At.enc 7 w' w'.heap.size (some ⟨g, 0, none⟩) (sortA l) := by
  have hH := holds_of h hl
  have C := sortStable_any lay_at At.enc (fun _ => rfl) (fun x v hv => by
    simp only [At.enc, List.mem_cons, List.not_mem_nil, or_false] at hv
    rcases hv with rfl | rfl | rfl | rfl | rfl | rfl | rfl <;> rfl) cfA swoA 83 #[] g 0 c (tagged l) w (fun _ _ => by kernel_rfl) (cmp_at g 0 _ w) hH hg (by rw [tagged_size]; omega) (fun i hi => by
      rw [tagged_size] at hi
      rw [tagged_at (List.getElem?_eq_getElem hi)])
  rw [tagged_size] at C
  refine C.mono fun e w' ⟨he, q, r, os, hw, hp, ht⟩ => ⟨he, ?_, ?_⟩
  · rw [hw]; exact below_sw hb hg
  · have hs : r.size = l.length := by rw [hp.1, tagged_size]
    have hH2 : HoldsK (encT At.enc) 7 w' g 0 r := by rw [hw]; exact holdsK_sortWorldK_c _ 7 w g 0 (tagged l) r q os hH hg (by rw [hs, tagged_size])
    have he2 := sorted_eq hp ht
    have hlt : g < w'.heap.size := by rw [hw]; exact Nat.lt_of_lt_of_le hg (size_sortWorldK_c _ _ _ _ _ _ _ _)
    intro i x hx
    rw [← he2, List.getElem?_map] at hx
    have hi : i < r.size := by
      cases hq : r.toList[i]? with
      | none => rw [hq] at hx; cases hx
      | some y => have := (List.getElem?_eq_some_iff.1 hq).1; simpa using this
    have hri : r.toList[i]? = some r[i]! := by rw [getElem!_pos r i hi]; simp [hi]
    rw [hri] at hx
    injection hx with hx
    refine ⟨g, 0, rfl, hlt, fun j v hv => ?_⟩
    have hj : j < 7 := by have := (List.getElem?_eq_some_iff.1 hv).1; simpa [At.enc] using this
    have := (hH2.cell (i := i) (c := j) hi hj).1
    rw [this]
    subst hx
    show some ((At.enc r[i]!.1)[j]!) = some v
    rw [List.getElem!_eq_getElem?_getD, hv]
    rfl
/-- nothing to sort -/
theorem ins0_any (A : Option Addr) (c : Nat) (w : World) : Calls Try.prog 93 #[.slice A 0 c, .int .i64 0, .int .i64 0, .func (.func 83) #[] #[]] w fun e w' => e = .returned (.tuple #[]) ∧ w = w' := by
  go_enter Try.func93, Try.ntmps93
  go_wp2
  refine wp_loop_rounds 1 ?_
  rw [rounds_succ]
  go_wp2_with fail
  go_end0
  exact ⟨rfl, rfl⟩
theorem stable0_any (A : Option Addr) (c : Nat) (w : World) : Calls Try.prog 89 #[.slice A 0 c, .int .i64 0, .func (.func 83) #[] #[]] w fun e w' => e = .returned (.tuple #[]) ∧ w = w' := by
  go_enter Try.func89, Try.ntmps89
  go_wp2
  refine wp_loop_rounds 1 ?_
  rw [rounds_succ]
  go_wp2_with fail
  refine (ins0_any A c _).mono ?_
  rintro e w' ⟨rfl, rfl⟩
  go_wp2_with fail
  refine wp_loop_rounds 1 ?_
  rw [rounds_succ]
  go_wp2_with fail
  go_end0
  exact ⟨rfl, rfl⟩
theorem sort0_any (A : Option Addr) (c : Nat) (w : World) : Calls Try.prog 82 #[.slice A 0 c, .func (.func 83) #[] #[]] w fun e w' => e = .returned (.tuple #[]) ∧ w = w' := by
  go_enter Try.func82, Try.ntmps82
  go_wp2_with fail
  refine (stable0_any A c _).mono ?_
  rintro e w' ⟨rfl, rfl⟩
  go_wp2_with fail
  go_end0
  exact ⟨rfl, rfl⟩
/-- what right returns: the error of the judge, or the steps in ascending order of their starts -/
def RightPost (p : Shop) (pl : List (List Int)) (w : World) (e : Ending) (w' : World) : Prop :=
  Below w.heap.size w w' ∧ (((judgeF p pl).2.2 ≠ 0 ∧ e = .returned (.tuple #[.slice none 0 0, .int .i64 (judgeF p pl).2.2])) ∨
    ((judgeF p pl).2.2 = 0 ∧ ∃ A c, e = .returned (.tuple #[.slice A (sortA (ats p pl)).length c, .int .i64 0]) ∧ Slc At.enc 7 w' w'.heap.size A (sortA (ats p pl))))
theorem judge_shaped {p : Shop} {pl : List (List Int)} (h : (judgeF p pl).2.2 = 0) : shapedB p pl = true := by
  unfold judgeF at h
  split at h
  · assumption
  · cases h
set_option maxRecDepth 100000 in
set_option maxHeartbeats 2000000 in
theorem right_any (s : Sh) (A : Option Addr) (c : Nat) (pl : List (List Int)) (w : World) (hS : ShAt w w.heap.size s) (hvB : validShop s.p = true) (hP : Plan w w.heap.size A pl) (hf : PFits pl) :
    Calls Try.prog 67 #[.agg #[.int .i64 s.p.op, .int .i64 s.p.cl, .slice s.aH s.p.hol.length s.cH, .int .i64 s.p.mach, .slice s.aS s.p.setup.length s.cS, .slice s.aJ s.p.jobs.length s.cJ], .slice A pl.length c] w (RightPost s.p pl w) := by
  have hv := valid_facts hvB
  have hfs := hv.fits
  have hen := ents_len hv
  have hal := ats_len s.p pl
  have HV3 : Hid (V3 (judgeF s.p pl) = .tuple #[.int .i64 (judgeF s.p pl).1, .int .i64 (judgeF s.p pl).2.1, .int .i64 (judgeF s.p pl).2.2]) := rfl
  have hk := Blk.new w 25 #[.int .i64 s.p.op, .int .i64 s.p.cl, .slice s.aH s.p.hol.length s.cH, .int .i64 s.p.mach, .slice s.aS s.p.setup.length s.cS, .slice s.aJ s.p.jobs.length s.cJ]
  have hB := (Below.refl w.heap.size w).alloc (Nat.le_refl _) (.cells #[.int .i64 s.p.op, .int .i64 s.p.cl, .slice s.aH s.p.hol.length s.cH, .int .i64 s.p.mach, .slice s.aS s.p.setup.length s.cS, .slice s.aJ s.p.jobs.length s.cJ] 25)
  go_enter Try.func67, Try.ntmps67
  go_wp2_with fail
  generalize w.alloc (.cells #[.int .i64 s.p.op, .int .i64 s.p.cl, .slice s.aH s.p.hol.length s.cH, .int .i64 s.p.mach, .slice s.aS s.p.setup.length s.cS, .slice s.aJ s.p.jobs.length s.cJ] 25) = W at *
  have c0 := hk.cell_ 0 rfl
  have c1 := hk.cell_ 1 rfl
  have c2 := hk.cell_ 2 rfl
  have c3 := hk.cell_ 3 rfl
  have c4 := hk.cell_ 4 rfl
  have c5 := hk.cell_ 5 rfl
  go_wp2_with fail
  refine (valid_any s _ (hS.on hB) hfs.h1 hfs.h2 hfs.h3 hfs.h4).mono ?_
  rintro e W ⟨rfl, hb⟩
  clear c0 c1 c2 c3 c4 c5
  replace hk := hk.below hb hk.lt
  replace hB := hB.trans (hb.mono hB.size)
  clear hb
  have c0 := hk.cell_ 0 rfl
  have c1 := hk.cell_ 1 rfl
  have c2 := hk.cell_ 2 rfl
  have c3 := hk.cell_ 3 rfl
  have c4 := hk.cell_ 4 rfl
  have c5 := hk.cell_ 5 rfl
  rw [hvB]
  go_wp2_with fail
  refine (judge_any s A c pl _ (hS.on hB) hv (hP.on hB) hf).mono ?_
  rintro e W ⟨rfl, hb⟩
  clear c0 c1 c2 c3 c4 c5
  replace hk := hk.below hb hk.lt
  replace hB := hB.trans (hb.mono hB.size)
  clear hb
  have c0 := hk.cell_ 0 rfl
  have c1 := hk.cell_ 1 rfl
  have c2 := hk.cell_ 2 rfl
  have c3 := hk.cell_ 3 rfl
  have c4 := hk.cell_ 4 rfl
  have c5 := hk.cell_ 5 rfl
  rw [HV3.out]
  by_cases hz : (judgeF s.p pl).2.2 = 0
  · have hp := shaped_facts (judge_shaped hz)
    rw [hz]
    have HZ := hide hz
    clear hz
    have hsz := hB.size
    go_wp2_with fail
    refine (list_any s A c pl _ (hS.on hB) hv (hP.on hB) hp).mono ?_
    rintro e W ⟨v, rfl, hb, hO⟩
    clear c0 c1 c2 c3 c4 c5
    replace hk := hk.below hb hk.lt
    replace hB := hB.trans (hb.mono hB.size)
    clear hb
    have c0 := hk.cell_ 0 rfl
    have c1 := hk.cell_ 1 rfl
    have c2 := hk.cell_ 2 rfl
    have c3 := hk.cell_ 3 rfl
    have c4 := hk.cell_ 4 rfl
    have c5 := hk.cell_ 5 rfl
    obtain ⟨base, hbase, hO⟩ : ∃ base, w.heap.size ≤ base ∧ Own W base 91 7 At.enc v (ats s.p pl) := ⟨_, hsz, hO⟩
    clear hsz
    rcases Nat.eq_zero_or_pos (ats s.p pl).length with h0 | h0
    · obtain ⟨AL, cL, rfl, hL⟩ := hO.form fun _ => rfl
      have hnil : ats s.p pl = [] := List.length_eq_zero_iff.1 h0
      have HN := hide hnil
      rw [h0]
      clear h0 hnil hal hO hL
      go_wp2_with fail
      refine (sort0_any AL cL _).mono ?_
      rintro e W' ⟨rfl, rfl⟩
      go_wp2_with fail
      go_ret2
      exact ⟨hB, .inr ⟨HZ.out, AL, cL, by rw [HN.out]; rfl, by rw [HN.out]; exact Slc.nil_⟩⟩
    · obtain ⟨g, cL, rfl, hbg, hgl⟩ := hO.at_ h0
      have HO := hide hO
      have HA := hide h0
      have hsl := sortA_len (ats s.p pl)
      have HSL := hide hsl
      have hal2 : (ats s.p pl).length ≤ 96 := by omega
      clear hO h0 hsl hal
      go_wp2_with fail
      refine (sortAt_any _ HO.out HA.out (by omega) hbg hgl).mono ?_
      rintro e W' ⟨rfl, hb, hL⟩
      have hB2 := hB.trans (hb.mono hbase)
      clear hB hk hb
      go_wp2_with fail
      go_ret2
      exact ⟨hB2, .inr ⟨HZ.out, some ⟨g, 0, none⟩, cL, by rw [HSL.out]; rfl, hL⟩⟩
  · have hzb : ((judgeF s.p pl).2.2 != 0) = true := by simpa using hz
    have HZ := hide hz
    clear hz
    go_wp2_with fail
    go_ret2
    exact ⟨hB, .inl ⟨HZ.out, rfl⟩⟩
end Go.Proofs.Ytcpnfcnobnjhdaa

/- The end of a plan: the plain words. -/
namespace Go.Proofs.Ytcpnfcnobnjhdaa
open Go Go.Sort Go.RowKit StabAt
theorem sortA_perm (l : List At) : (sortA l).Perm l := by
  obtain ⟨s, _, h2, h3⟩ := fold_sorted l 0 [] List.Pairwise.nil (fun b hb => by cases hb)
  have : sortA l = s.map (·.1) := by rw [h3]; rfl
  rw [this]
  have h4 := h2.map (·.1)
  refine h4.trans ?_
  simp
theorem sortA_mem {l : List At} {a : At} : a ∈ sortA l ↔ a ∈ l := (sortA_perm l).mem_iff
/-- the greatest end, 0 at least -/
def endL (l : List At) (m : Int) : Int := l.foldl (fun m a => max m a.end_) m
theorem endL_cons (a : At) (l : List At) (m : Int) : endL (a :: l) m = endL l (max m a.end_) := rfl
theorem endL_drop {l : List At} {k : Nat} {a : At} {m : Int} (h : l[k]? = some a) : endL (l.drop k) m = endL (l.drop (k + 1)) (max m a.end_) := by
  obtain ⟨hl, hf⟩ := List.getElem?_eq_some_iff.1 h
  rw [List.drop_eq_getElem_cons hl, hf]; rfl
theorem endL_is : ∀ (l : List At) (m : Int), m ≤ endL l m ∧ (∀ a ∈ l, a.end_ ≤ endL l m) ∧ (endL l m = m ∨ ∃ a ∈ l, endL l m = a.end_)
  | [], m => ⟨Int.le_refl _, (fun a h => by cases h), .inl rfl⟩
  | b :: l, m => by
    rw [endL_cons]
    obtain ⟨h1, h2, h3⟩ := endL_is l (max m b.end_)
    refine ⟨by omega, fun a ha => ?_, ?_⟩
    · rcases List.mem_cons.1 ha with rfl | ha
      · omega
      · exact h2 a ha
    · rcases h3 with h3 | ⟨a, ha, h3⟩
      · rw [h3]
        by_cases hc : m ≤ b.end_
        · exact .inr ⟨b, by simp, by omega⟩
        · exact .inl (by omega)
      · exact .inr ⟨a, by simp [ha], h3⟩
theorem endL_perm {l l' : List At} (h : l.Perm l') (m : Int) : endL l m = endL l' m := by
  obtain ⟨a1, a2, a3⟩ := endL_is l m
  obtain ⟨b1, b2, b3⟩ := endL_is l' m
  have c1 : endL l m ≤ endL l' m := by
    rcases a3 with a3 | ⟨a, ha, a3⟩
    · omega
    · have := b2 a (h.mem_iff.1 ha); omega
  have c2 : endL l' m ≤ endL l m := by
    rcases b3 with b3 | ⟨a, ha, b3⟩
    · omega
    · have := a2 a (h.mem_iff.2 ha); omega
  omega
/-- what right hands back, as one form -/
noncomputable def rightL (p : Shop) (pl : List (List Int)) : List At := if (judgeF p pl).2.2 = 0 then sortA (ats p pl) else []
theorem RightPost.form {p : Shop} {pl : List (List Int)} {w w' : World} {e : Ending} (h : RightPost p pl w e w') :
    ∃ A c, e = .returned (.tuple #[.slice A (rightL p pl).length c, .int .i64 (judgeF p pl).2.2]) ∧ Below w.heap.size w w' ∧ Slc At.enc 7 w' w'.heap.size A (rightL p pl) := by
  obtain ⟨hb, ⟨h1, h2⟩ | ⟨h1, A, c, h2, h3⟩⟩ := h
  · exact ⟨none, 0, by unfold rightL; rw [if_neg h1, h2]; rfl, hb, by unfold rightL; rw [if_neg h1]; exact Slc.nil_⟩
  · exact ⟨A, c, by unfold rightL; rw [if_pos h1, h2, h1], hb, by unfold rightL; rw [if_pos h1]; exact h3⟩
theorem rightL_ok {p : Shop} (hv : VShop p) {pl : List (List Int)} {a : At} (h : a ∈ rightL p pl) : AtOk p pl a := by
  unfold rightL at h
  split at h
  · rename_i hz
    exact ats_ok hv (shaped_facts (judge_shaped hz)) (sortA_mem.1 h)
  · cases h
theorem rightL_len {p : Shop} (hv : VShop p) (pl : List (List Int)) : (rightL p pl).length ≤ 96 := by
  have h1 := ents_len hv
  have h2 := ats_len p pl
  unfold rightL
  split
  · rw [sortA_len]; omega
  · exact Nat.zero_le _
/-- End: the greatest end of a right plan -/
noncomputable def endV (p : Shop) (pl : List (List Int)) : Int := endL (rightL p pl) 0
set_option maxRecDepth 100000 in
set_option maxHeartbeats 2000000 in
theorem apiEnd_any (s : Sh) (A : Option Addr) (c : Nat) (pl : List (List Int)) (w : World) (hS : ShAt w w.heap.size s) (hvB : validShop s.p = true) (hP : Plan w w.heap.size A pl) (hf : PFits pl) :
    Calls Try.prog 39 #[.agg #[.int .i64 s.p.op, .int .i64 s.p.cl, .slice s.aH s.p.hol.length s.cH, .int .i64 s.p.mach, .slice s.aS s.p.setup.length s.cS, .slice s.aJ s.p.jobs.length s.cJ], .slice A pl.length c] w fun e w' => e = .returned (.tuple #[.int .i64 (endV s.p pl), .int .i64 (judgeF s.p pl).2.2]) ∧ Below w.heap.size w w' := by
  have hv := valid_facts hvB
  have HE : Hid (endV s.p pl = endL ((rightL s.p pl).drop 0) 0) := rfl
  have hln := rightL_len hv pl
  have HOK := hide (fun (a : At) (h : a ∈ rightL s.p pl) => rightL_ok hv h)
  have hk := Blk.new w 25 #[.int .i64 s.p.op, .int .i64 s.p.cl, .slice s.aH s.p.hol.length s.cH, .int .i64 s.p.mach, .slice s.aS s.p.setup.length s.cS, .slice s.aJ s.p.jobs.length s.cJ]
  have hB := (Below.refl w.heap.size w).alloc (Nat.le_refl _) (.cells #[.int .i64 s.p.op, .int .i64 s.p.cl, .slice s.aH s.p.hol.length s.cH, .int .i64 s.p.mach, .slice s.aS s.p.setup.length s.cS, .slice s.aJ s.p.jobs.length s.cJ] 25)
  go_enter Try.func39, Try.ntmps39
  go_wp2_with fail
  generalize w.alloc (.cells #[.int .i64 s.p.op, .int .i64 s.p.cl, .slice s.aH s.p.hol.length s.cH, .int .i64 s.p.mach, .slice s.aS s.p.setup.length s.cS, .slice s.aJ s.p.jobs.length s.cJ] 25) = W at *
  have c0 := hk.cell_ 0 rfl
  have c1 := hk.cell_ 1 rfl
  have c2 := hk.cell_ 2 rfl
  have c3 := hk.cell_ 3 rfl
  have c4 := hk.cell_ 4 rfl
  have c5 := hk.cell_ 5 rfl
  go_wp2_with fail
  refine (right_any s A c pl _ (hS.on hB) hvB (hP.on hB) hf).mono ?_
  rintro e W2 hR
  obtain ⟨AL, cL, rfl, hb, hL⟩ := hR.form
  replace hB := hB.trans (hb.mono hB.size)
  clear hb hR hk c0 c1 c2 c3 c4 c5
  generalize rightL s.p pl = L at *
  obtain ⟨z, hz⟩ : ∃ z, (judgeF s.p pl).2.2 = z := ⟨_, rfl⟩
  rw [hz]
  have HZ := hide hz
  clear hz
  obtain ⟨W, rfl⟩ : ∃ W : World, W = W2 := ⟨_, rfl⟩
  go_wp2_with fail
  go_loopw [8, 19] (fun x y W => ∃ (i : Nat) (m : Int), x = .int .i64 m ∧ y = .int .i64 i ∧ i ≤ L.length ∧ 0 ≤ m ∧ m ≤ 2000000000 ∧ Hid (endV s.p pl = endL (L.drop i) m) ∧ Slc At.enc 7 W W.heap.size AL L ∧ Below w.heap.size w W) (fun x y _ => L.length - (intOf y).toNat)
  case atStart => exact ⟨0, 0, rfl, rfl, Nat.zero_le _, Int.le_refl _, by omega, HE, hL, hB⟩
  case round =>
    clear hL hB
    obtain ⟨W, rfl⟩ : ∃ W : World, W = wr := ⟨_, rfl⟩
    obtain ⟨i, m, rfl, rfl, hi, hm0, hm1, HS, hL, hB⟩ := hrel
    by_cases hlt : i < L.length
    · obtain ⟨a, ha⟩ : ∃ a, L[i]? = some a := ⟨_, List.getElem?_eq_getElem hlt⟩
      obtain ⟨b, off, hA, hb0, d0, d1, d2, d3, d4, d5, d6⟩ := at7 hL ha
      have hok := HOK.out a (List.mem_of_getElem? ha)
      have o1 := hok.t0
      have o2 := hok.t1
      have o3 := (hok.fit hv).mi0
      have o4 := (hok.fit hv).mi1
      have HST := hide (endL_drop (m := m) ha)
      clear ha hok
      subst hA
      have hij : (i : Int) < (L.length : Int) := by omega
      go_wp2_with fail
      have hx := Blk.new W 91 #[.int .i64 a.j, .int .i64 a.k, .int .i64 a.t, .int .i64 a.x.m, .int .i64 a.x.mi, .int .i64 a.x.c, .int .i64 a.x.d]
      replace hL := (hL.below ((Below.refl _ W).alloc (Nat.le_refl _) (.cells #[.int .i64 a.j, .int .i64 a.k, .int .i64 a.t, .int .i64 a.x.m, .int .i64 a.x.mi, .int .i64 a.x.c, .int .i64 a.x.d] 91))).more ((Below.refl _ W).alloc (Nat.le_refl _) (.cells #[.int .i64 a.j, .int .i64 a.k, .int .i64 a.t, .int .i64 a.x.m, .int .i64 a.x.mi, .int .i64 a.x.c, .int .i64 a.x.d] 91)).size
      replace hB := hB.alloc hB.size (.cells #[.int .i64 a.j, .int .i64 a.k, .int .i64 a.t, .int .i64 a.x.m, .int .i64 a.x.mi, .int .i64 a.x.c, .int .i64 a.x.d] 91)
      generalize W.alloc (.cells #[.int .i64 a.j, .int .i64 a.k, .int .i64 a.t, .int .i64 a.x.m, .int .i64 a.x.mi, .int .i64 a.x.c, .int .i64 a.x.d] 91) = W at *
      have a0 := hx.cell_ 0 rfl
      have a1 := hx.cell_ 1 rfl
      have a2 := hx.cell_ 2 rfl
      have a3 := hx.cell_ 3 rfl
      have a4 := hx.cell_ 4 rfl
      have a5 := hx.cell_ 5 rfl
      have a6 := hx.cell_ 6 rfl
      clear d0 d1 d2 d3 d4 d5 d6
      go_wp2_with fail
      refine (end_any a _ ⟨by omega, by omega⟩ ⟨o3, by omega⟩).mono ?_
      rintro e W ⟨rfl, hb⟩
      clear a0 a1 a2 a3 a4 a5 a6
      replace hL := (hL.below hb).more hb.size
      replace hx := hx.below hb hx.lt
      replace hB := hB.trans (hb.mono hB.size)
      clear hb
      have a0 := hx.cell_ 0 rfl
      have a1 := hx.cell_ 1 rfl
      have a2 := hx.cell_ 2 rfl
      have a3 := hx.cell_ 3 rfl
      have a4 := hx.cell_ 4 rfl
      have a5 := hx.cell_ 5 rfl
      have a6 := hx.cell_ 6 rfl
      have HS2 : Hid (endV s.p pl = endL (L.drop (i + 1)) (max m (a.t + a.x.mi))) := by show _ = _; rw [HS.out, HST.out]; rfl
      go_wp2_with fail
      go_roundw
      case rel => exact ⟨i + 1, max m (a.t + a.x.mi), rfl, by go_num, by omega, by omega, by omega, HS2, hL, hB⟩
      case measure => simp [intOf]; omega
    · obtain rfl : i = L.length := by omega
      have HV : Hid (endV s.p pl = m) := by show _ = _; rw [HS.out, nomore]; rfl
      go_wp2_with fail
      go_ret2
      exact ⟨ret_eq (by rw [HV.out, HZ.out]; rfl), hB⟩
end Go.Proofs.Ytcpnfcnobnjhdaa
