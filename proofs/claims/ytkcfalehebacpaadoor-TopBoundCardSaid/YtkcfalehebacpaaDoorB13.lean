/- Parts of the proofs of this seat: KSort, KOut. Each part says what it proves; no condition beyond those stated there. -/
import Derived.Test.YtkcfalehebacpaaDoorB1
import Derived.Test.YtkcfalehebacpaaDoorB5
import Derived.Test.YtkcfalehebacpaaDoorB9
import Derived.Test.YtkcfalehebacpaaDoorB12

/- The stable sort of a plan's batches, falling by their counts. -/
namespace Go.Proofs.YtkcfalehebacpaaDoor
open Go Go.Sort Go.RowKit StabBat
def encB (bs : List Bt) (x : Nat) : List Value := Bt.enc (bs.getD x default)
def keyB (pl : List Bat) (x : Nat) : List Int := (pl.getD x default).ps
def cfB (pl : List Bat) (x y : Nat) : Int := cmpL (keyB pl y) (keyB pl x)
theorem ltB {pl : List Bat} {x y : Nat} : ltF (cfB pl) x y = decide (0 < cmpL (keyB pl x) (keyB pl y)) := by
  unfold ltF cfB
  rw [decide_eq_decide, cmpL_swap (keyB pl x) (keyB pl y)]
  omega
theorem swoB (pl : List Bat) : SWO (ltF (cfB pl)) := by
  refine ⟨fun x => ?_, fun x y z h1 h2 => ?_, fun x y z h1 h2 => ?_⟩
  · rw [ltB]; exact decide_eq_false fun h => cmpL_irrefl h
  · rw [ltB, decide_eq_true_eq] at h1 h2 ⊢; exact cmpL_trans h1 h2
  · rw [ltB, decide_eq_false_iff_not] at h1 h2 ⊢
    intro h
    rcases cmpL_cases (keyB pl y) (keyB pl x) with k | k | k
    · rcases cmpL_cases (keyB pl z) (keyB pl y) with m | m | m
      · exact cmpL_asymm (cmpL_trans m k) h
      · rw [m] at h; exact cmpL_asymm k h
      · exact h2 m
    · rw [k] at h2; exact h2 h
    · exact h1 k
theorem lay_bat : Lay Tryd.prog 2 := by
  constructor
  all_goals first | (by_cases True <;> kernel_rfl) | (intros; kernel_rfl) | kernel_rfl
def tagB (n : Nat) : Array (Nat × Nat) := ((List.range n).zipIdx).toArray
theorem tagB_size (n : Nat) : (tagB n).size = n := by simp [tagB]
theorem tagB_at {n i : Nat} (h : i < n) : (tagB n)[i]! = (i, i) := by
  rw [getElem!_pos _ _ (by simpa [tagB] using h)]
  simp [tagB]
theorem holds_b {w : World} {base g c : Nat} {l : List Bt} (h : Own w base 43 2 Bt.enc (.slice (some ⟨g, 0, none⟩) l.length c) l) : HoldsK (encT (encB l)) 2 w g 0 (tagB l.length) := by
  rcases h.2 with ⟨h1, _⟩ | ⟨g', cap, cur, h1, h2, h3, h4, h5, h6, h7⟩
  · cases h1
  · injection h1 with h1
    injection h1 with h1
    injection h1 with h1
    subst h1
    intro j hj
    have hj' : j < l.length * 2 := by simpa [flatK, tagB_size] using hj
    have hi : j / 2 < l.length := by omega
    have hli : l[j / 2]? = some l[j / 2] := List.getElem?_eq_getElem hi
    have hf : (flatK (encT (encB l)) 2 (tagB l.length))[j]! = (Bt.enc l[j / 2])[j % 2]! := by
      rw [get_flatK _ _ _ _ (by rw [tagB_size]; exact hj'), tagB_at hi]
      show (encB l (j / 2))[j % 2]! = _
      unfold encB
      rw [List.getD_eq_getElem?_getD, hli]; rfl
    have hen : (Bt.enc l[j / 2])[j % 2]? = some (Bt.enc l[j / 2])[j % 2]! := by
      have : j % 2 < 2 := Nat.mod_lt _ (by omega)
      generalize j % 2 = q at *
      match q, this with
      | 0, _ => rfl
      | 1, _ => rfl
    have h8 := flat_at (n := 2) (fun _ => rfl) l (j / 2) _ hli (j % 2) _ hen
    rw [show j / 2 * 2 + j % 2 = j by omega, ← h7, List.getElem?_take, if_pos hj'] at h8
    refine ⟨?_, ?_⟩
    · rw [cell_of_row w g _ cur 43 (0, 0) h3, hf]
      simpa using h8
    · exact frozen_of_row w g _ cur 43 h3
theorem below_swb {w : World} {enc : Nat × Nat → List Value} {B g off m : Nat} {dk : Array (Nat × Nat)} {os : Array Obj} (hB : B ≤ g) (hg : g < w.heap.size) : Go.RowKit.Below B w (sortWorldK enc 2 w g off m dk os) := by
  refine ⟨rfl, rfl, rfl, size_sortWorldK_c _ _ _ _ _ _ _ _, fun k hk => ?_⟩
  unfold sortWorldK
  rw [heap_grow_old _ _ (by rw [size_putRowK]; show k < w.heap.size; omega)]
  unfold putRowK putRow mapBlock
  simp only [Array.getElem?_modify]
  rw [if_neg (by omega)]
  rfl
/-- the comparator -/
theorem cmp1_any (x y : Bt) (a b : List Int) (w : World) (hx : Slc intEnc 1 w w.heap.size x.A a) (hy : Slc intEnc 1 w w.heap.size y.A b) (hxn : x.n = a.length) (hyn : y.n = b.length) (hl : a.length ≤ 100000) (hl2 : b.length ≤ 100000) :
    Calls Tryd.prog 34 #[.agg #[.int .i64 x.t, .slice x.A x.n x.c], .agg #[.int .i64 y.t, .slice y.A y.n y.c]] w fun e w' => e = .returned (.int .i64 (cmpL b a)) ∧ (w.alloc (.cells #[.int .i64 x.t, .slice x.A x.n x.c] 43)).alloc (.cells #[.int .i64 y.t, .slice y.A y.n y.c] 43) = w' := by
  obtain ⟨tx, Ax, nx, cx⟩ := x
  obtain ⟨ty, Ay, ny, cy⟩ := y
  dsimp only at *
  subst hxn hyn
  have hz : (w.alloc (.cells #[.int .i64 tx, .slice Ax a.length cx] 43)).heap.size = w.heap.size + 1 := by simp
  have hB := ((Go.RowKit.Below.refl w.heap.size w).alloc (Nat.le_refl _) (.cells #[.int .i64 tx, .slice Ax a.length cx] 43)).alloc (by omega) (.cells #[.int .i64 ty, .slice Ay b.length cy] 43)
  have T1 := hide (hx.on hB)
  have T2 := hide (hy.on hB)
  clear hB hx hy
  go_enter Tryd.func34, Tryd.ntmps34
  go_wp2_with fail
  refine (compareL_any Ay cy b Ax cx a _ T2.out T1.out hl2 hl).mono ?_
  rintro e w' ⟨rfl, rfl⟩
  go_wp2_with fail
  go_ret
  exact ⟨rfl, rfl⟩
theorem keyIn {w : World} {A : Option Addr} {bs : List Bt} {pl : List Bat} (h : PlanAt w A bs pl) (x : Nat) : Slc intEnc 1 w w.heap.size (bs.getD x default).A (keyB pl x) ∧ (bs.getD x default).n = (keyB pl x).length := by
  unfold keyB
  rw [List.getD_eq_getElem?_getD, List.getD_eq_getElem?_getD]
  by_cases hx : x < bs.length
  · have h1 : bs[x]? = some bs[x] := List.getElem?_eq_getElem hx
    have h2 : pl[x]? = some (pl[x]'(by rw [← h.len]; exact hx)) := List.getElem?_eq_getElem _
    obtain ⟨_, e2, e3⟩ := h.in_ x _ _ h1 h2
    rw [h1, h2]
    exact ⟨e3, e2⟩
  · have h1 : bs[x]? = none := List.getElem?_eq_none (by omega)
    have h2 : pl[x]? = none := List.getElem?_eq_none (by rw [← h.len]; omega)
    rw [h1, h2]
    exact ⟨Slc.nil_, rfl⟩
theorem key_len {pl : List Bat} (hp : ∀ b ∈ pl, b.ps.length ≤ 100000) (x : Nat) : (keyB pl x).length ≤ 100000 := by
  unfold keyB
  rw [List.getD_eq_getElem?_getD]
  cases h : pl[x]? with
  | none => exact Nat.zero_le _
  | some b => exact hp b (List.mem_of_getElem? h)
theorem cmp_b {w0 : World} {A : Option Addr} {bs : List Bt} {pl : List Bat} (h : PlanAt w0 A bs pl) (hp : ∀ b ∈ pl, b.ps.length ≤ 100000) (g size : Nat) (w : World) (hb : Go.RowKit.Below w0.heap.size w0 w) (hB : w0.heap.size ≤ g) (hg : g < w.heap.size) :
    Cmp Tryd.prog 34 #[] (encT (encB bs)) 2 (cfT (cfB pl)) g 0 size w := fun m os dk _ x y => by
  have hb2 : Go.RowKit.Below w0.heap.size w0 (sortWorldK (encT (encB bs)) 2 w g 0 m dk os) := hb.trans ((below_swb hB hg).mono (Nat.le_refl _))
  have S1 := (keyIn h x.1).1.on hb2
  have S2 := (keyIn h y.1).1.on hb2
  refine (cmp1_any (bs.getD x.1 default) (bs.getD y.1 default) (keyB pl x.1) (keyB pl y.1) _ S1 S2 (keyIn h x.1).2 (keyIn h y.1).2 (key_len hp _) (key_len hp _)).mono fun e w' ⟨he, hw⟩ => ⟨he, 0, #[.cells #[.int .i64 (bs.getD x.1 default).t, .slice (bs.getD x.1 default).A (bs.getD x.1 default).n (bs.getD x.1 default).c] 43, .cells #[.int .i64 (bs.getD y.1 default).t, .slice (bs.getD y.1 default).A (bs.getD y.1 default).n (bs.getD y.1 default).c] 43], ?_⟩
  rw [← hw, alloc_eq_grow, alloc_eq_grow, grow_grow]; rfl
theorem range_get {α : Type} [Inhabited α] (l : List α) : (List.range l.length).map (fun x => l.getD x default) = l := by
  refine List.ext_getElem? fun i => ?_
  rw [List.getElem?_map]
  by_cases h : i < l.length
  · rw [List.getElem?_range h, Option.map_some, List.getD_eq_getElem?_getD, List.getElem?_eq_getElem h]; rfl
  · rw [List.getElem?_eq_none (by simpa using h), List.getElem?_eq_none (by omega)]; rfl
/-- the sort of the batches that the call owns -/
theorem sortB_any {w0 : World} {A : Option Addr} {bs : List Bt} {pl : List Bat} (h : PlanAt w0 A bs pl) (hp : ∀ b ∈ pl, b.ps.length ≤ 100000) {g c : Nat} (w : World) (hb : Go.RowKit.Below w0.heap.size w0 w) (hO : Own w w0.heap.size 43 2 Bt.enc (.slice (some ⟨g, 0, none⟩) bs.length c) bs) (hn : bs.length ≤ 100000) (hB : w0.heap.size ≤ g) (hg : g < w.heap.size) :
    Calls Tryd.prog 33 #[.slice (some ⟨g, 0, none⟩) bs.length c, .func (.func 34) #[] #[]] w fun e w' => e = .returned (.tuple #[]) ∧ Go.RowKit.Below w0.heap.size w w' ∧ ∃ bs' pl', PlanAt w' (some ⟨g, 0, none⟩) bs' pl' ∧ pl'.Perm pl ∧ pl'.Pairwise fun x y => 0 ≤ cmpL x.ps y.ps := by
  have hH := holds_b hO
  have C := sortStable_any lay_bat (encB bs) (fun _ => rfl) (fun x v hv => by
    unfold encB Bt.enc at hv
    simp only [List.mem_cons, List.not_mem_nil, or_false] at hv
    rcases hv with rfl | rfl <;> rfl) (cfB pl) (swoB pl) 34 #[] g 0 c (tagB bs.length) w (fun _ _ => by kernel_rfl) (cmp_b h hp g _ w hb hB hg) hH hg (by rw [tagB_size]; omega) (fun i hi => by
      rw [tagB_size] at hi
      rw [tagB_at hi])
  rw [tagB_size] at C
  refine C.mono fun e w' ⟨he, q, r, os, hw, hpm, ht⟩ => ⟨he, ?_, ?_⟩
  · rw [hw]; exact below_swb hB hg
  · have hs : r.size = bs.length := by rw [hpm.1, tagB_size]
    have hH2 : HoldsK (encT (encB bs)) 2 w' g 0 r := by rw [hw]; exact holdsK_sortWorldK_c _ 2 w g 0 (tagB bs.length) r q os hH hg (by rw [hs, tagB_size])
    have hlt : g < w'.heap.size := by rw [hw]; exact Nat.lt_of_lt_of_le hg (size_sortWorldK_c _ _ _ _ _ _ _ _)
    have hbw : Go.RowKit.Below w0.heap.size w0 w' := by rw [hw]; exact hb.trans ((below_swb hB hg).mono (Nat.le_refl _))
    have hget : ∀ i, i < r.size → r.toList[i]? = some r[i]! := fun i hi => by rw [getElem!_pos r i hi]; simp [hi]
    have hlen : ∀ {β : Type} (f : Nat × Nat → β) (i : Nat) (y : β), (r.toList.map f)[i]? = some y → i < r.size ∧ y = f r[i]! := fun f i y hy => by
      rw [List.getElem?_map] at hy
      have hi : i < r.size := by
        cases hq : r.toList[i]? with
        | none => rw [hq] at hy; cases hy
        | some y => have := (List.getElem?_eq_some_iff.1 hq).1; simpa using this
      rw [hget i hi] at hy
      injection hy with hy
      exact ⟨hi, hy.symm⟩
    have hperm : (r.toList.map (·.1)).Perm (List.range bs.length) := by
      obtain ⟨_, _, hq⟩ := hpm
      have e1 : (r.extract 0 bs.length).toList = r.toList := by simp [← hs]
      have e2 : ((tagB bs.length).extract 0 bs.length).toList = (List.range bs.length).zipIdx := by
        simp only [tagB, List.extract_toArray, List.extract_eq_take_drop, List.drop_zero, Nat.sub_zero]
        exact List.take_of_length_le (by simp)
      rw [e1, e2] at hq
      have := hq.map (·.1)
      simpa using this
    refine ⟨r.toList.map fun x => bs.getD x.1 default, r.toList.map fun x => pl.getD x.1 default, ⟨?_, by simp, ?_⟩, ?_, ?_⟩
    · intro i x hx
      obtain ⟨hi, rfl⟩ := hlen _ i x hx
      refine ⟨g, 0, rfl, hlt, fun j v hv => ?_⟩
      have hj : j < 2 := by have := (List.getElem?_eq_some_iff.1 hv).1; simpa [Bt.enc] using this
      have := (hH2.cell (i := i) (c := j) hi hj).1
      rw [this]
      show some ((Bt.enc (bs.getD r[i]!.1 default))[j]!) = some v
      rw [List.getElem!_eq_getElem?_getD, hv]
      rfl
    · intro i b p hb' hp'
      obtain ⟨hi, rfl⟩ := hlen _ i b hb'
      obtain ⟨_, rfl⟩ := hlen _ i p hp'
      obtain ⟨k1, k2⟩ := keyIn h r[i]!.1
      refine ⟨?_, k2, k1.on hbw⟩
      have hx : r[i]!.1 < bs.length := by
        have := hperm.subset (List.mem_of_getElem? (l := r.toList.map (·.1)) (i := i) (a := r[i]!.1) (by rw [List.getElem?_map, hget i hi]; rfl))
        simpa using this
      have h1 : bs[r[i]!.1]? = some bs[r[i]!.1] := List.getElem?_eq_getElem hx
      have h2 : pl[r[i]!.1]? = some (pl[r[i]!.1]'(by rw [← h.len]; exact hx)) := List.getElem?_eq_getElem _
      rw [List.getD_eq_getElem?_getD, List.getD_eq_getElem?_getD, h1, h2]
      exact (h.in_ _ _ _ h1 h2).1
    · have := hperm.map fun x => pl.getD x default
      rw [List.map_map, h.len, range_get] at this
      exact this
    · rw [List.pairwise_iff_getElem]
      intro i j hi hj hij
      have hj' : j < r.size := by simpa using hj
      have hi' : i < r.size := by simpa using hi
      have hT := ht i j (Nat.zero_le _) hij (by omega)
      rw [List.getElem_map, List.getElem_map]
      rw [getElem!_pos r i hi', getElem!_pos r j hj'] at hT
      unfold TL at hT
      rw [ltB, ltB] at hT
      simp only [decide_eq_true_eq, decide_eq_false_iff_not] at hT
      rw [Array.getElem_toList, Array.getElem_toList]
      show 0 ≤ cmpL (keyB pl r[i].1) (keyB pl r[j].1)
      have := cmpL_swap (keyB pl r[i].1) (keyB pl r[j].1)
      rcases hT with h1 | ⟨h1, _⟩ <;> omega
/-- nothing to sort -/
theorem ins0_any (A : Option Addr) (c : Nat) (w : World) : Calls Tryd.prog 56 #[.slice A 0 c, .int .i64 0, .int .i64 0, .func (.func 34) #[] #[]] w fun e w' => e = .returned (.tuple #[]) ∧ w = w' := by
  go_enter Tryd.func56, Tryd.ntmps56
  go_wp2
  refine wp_loop_rounds 1 ?_
  rw [rounds_succ]
  go_wp2_with fail
  go_end0
  exact ⟨rfl, rfl⟩
theorem stable0_any (A : Option Addr) (c : Nat) (w : World) : Calls Tryd.prog 47 #[.slice A 0 c, .int .i64 0, .func (.func 34) #[] #[]] w fun e w' => e = .returned (.tuple #[]) ∧ w = w' := by
  go_enter Tryd.func47, Tryd.ntmps47
  go_wp2
  refine wp_loop_rounds 1 ?_
  rw [rounds_succ]
  go_wp2_with fail
  refine (ins0_any A c _).mono ?_
  rintro e w' ⟨rfl, rfl⟩
  go_wp2_with fail
  refine wp_loop_rounds 1 ?_
  rw [rounds_succ]
  go_wp2_with fail
  go_end0
  exact ⟨rfl, rfl⟩
theorem sort0_any (A : Option Addr) (c : Nat) (w : World) : Calls Tryd.prog 33 #[.slice A 0 c, .func (.func 34) #[] #[]] w fun e w' => e = .returned (.tuple #[]) ∧ w = w' := by
  go_enter Tryd.func33, Tryd.ntmps33
  go_wp2_with fail
  refine (stable0_any A c _).mono ?_
  rintro e w' ⟨rfl, rfl⟩
  go_wp2_with fail
  go_end0
  exact ⟨rfl, rfl⟩
end Go.Proofs.YtkcfalehebacpaaDoor

/- A list of batches that the call owns, each with counts of its own: the plan that canonical makes. -/
namespace Go.Proofs.YtkcfalehebacpaaDoor
open Go Go.RowKit
theorem own_blkF {α : Type} {f : α → List Value} {sz : Nat} {w : World} {base : Nat} {e : TypeId} {A : Option Addr} {c : Nat} {l : List α} {n : Nat} (h : Own w base e sz f (.slice A n c) l) (hl : l ≠ []) : ∃ b js, A = some ⟨b, 0, none⟩ ∧ base ≤ b ∧ Blk w b e (l.flatMap f ++ js).toArray := by
  rcases h.2 with ⟨_, h2⟩ | ⟨b, cap, cur, h1, h2, h3, _, _, _, h7⟩
  · exact absurd (List.length_eq_zero_iff.1 h2) hl
  · injection h1 with h1 _ _
    refine ⟨b, cur.toList.drop (l.length * sz), h1, h2, ?_⟩
    show _ = _
    rw [h3, ← h7, List.take_append_drop]
theorem blkF_get {α : Type} {f : α → List Value} {n : Nat} (hf : ∀ x, (f x).length = n) {l : List α} {js : List Value} {i j : Nat} {x : α} (hx : l[i]? = some x) {v : Value} (hv : (f x)[j]? = some v) : (l.flatMap f ++ js).toArray[i * n + j]? = some v := by
  have h1 := flat_at hf l i x hx j v hv
  rw [List.getElem?_toArray, List.getElem?_append_left (List.getElem?_eq_some_iff.1 h1).1]
  exact h1
theorem flat_set {α : Type} {f : α → List Value} {n : Nat} (hf : ∀ x, (f x).length = n) : ∀ {l : List α} {js : List Value} {q j : Nat} {x x' : α} {v : Value}, l[q]? = some x → j < n → f x' = (f x).set j v → (l.flatMap f ++ js).set (q * n + j) v = (l.set q x').flatMap f ++ js
  | [], _, _, _, _, _, _, h, _, _ => by simp at h
  | y :: r, js, 0, j, x, x', v, h, hj, he => by
    simp at h
    subst h
    rw [List.set_cons_zero, List.flatMap_cons, List.flatMap_cons, List.append_assoc, List.append_assoc, Nat.zero_mul, Nat.zero_add, List.set_append_left _ _ (by rw [hf]; exact hj), he]
  | y :: r, js, q + 1, j, x, x', v, h, hj, he => by
    simp at h
    rw [List.set_cons_succ, List.flatMap_cons, List.flatMap_cons, List.append_assoc, List.append_assoc, List.set_append_right _ _ (by rw [hf, Nat.succ_mul]; omega), hf, show (q + 1) * n + j - n = q * n + j by rw [Nat.succ_mul]; omega, flat_set hf h hj he]
theorem blkF_slc {α : Type} {f : α → List Value} {n : Nat} (hf : ∀ x, (f x).length = n) {w : World} {g : Nat} {e : TypeId} {l : List α} {js : List Value} (h : Blk w g e (l.flatMap f ++ js).toArray) : Slc f n w w.heap.size (some ⟨g, 0, none⟩) l := fun i x hx =>
  ⟨g, 0, rfl, h.lt, fun j v hv => by rw [Nat.zero_add]; exact h.cell_ _ (blkF_get hf hx hv)⟩
/-- what the call has made so far: batches whose counts it owns -/
structure OutIn (w : World) (base : Nat) (os : List Bt) (pl : List Bat) : Prop where
  len : os.length = pl.length
  in_ : ∀ (i : Nat) b p, os[i]? = some b → pl[i]? = some p → b.t = p.t ∧ b.n = p.ps.length ∧ p.ps ≠ [] ∧ Own w base 3 1 intEnc (.slice b.A b.n b.c) p.ps
theorem OutIn.nil_ (w : World) (base : Nat) : OutIn w base [] [] := ⟨rfl, fun i b p h => by simp at h⟩
theorem OutIn.below {w w' : World} {base : Nat} {os : List Bt} {pl : List Bat} (h : OutIn w base os pl) (hb : Below w.heap.size w w') : OutIn w' base os pl :=
  ⟨h.len, fun i b p h1 h2 => by
    obtain ⟨a1, a2, a3, a4⟩ := h.in_ i b p h1 h2
    exact ⟨a1, a2, a3, a4.below hb⟩⟩
theorem own_kept {α : Type} {w w' : World} {base : Nat} {e : TypeId} {sz : Nat} {f : α → List Value} {v : Value} {l : List α} {row : Option Nat} (h : Own w base e sz f v l) (hg : w.grownBy w' row) (hr : ∀ b, v.ownBlock = some b → row ≠ some b) : Own w' base e sz f v l :=
  World.ownsRow.kept h hg (by
    cases hv : v.ownBlock with
    | none => exact .inl rfl
    | some q => exact .inr fun he => hr q hv he.symm)
/-- the list grows: its batches' counts lie in blocks of numbers, not in its own -/
theorem OutIn.grown {w w' : World} {base base' : Nat} {os os' : List Bt} {pl : List Bat} {v : Value} (h : OutIn w base os pl) (hO : Own w base' 43 2 Bt.enc v os') (hg : w.grownBy w' v.ownBlock) : OutIn w' base os pl :=
  ⟨h.len, fun i b p h1 h2 => by
    obtain ⟨a1, a2, a3, a4⟩ := h.in_ i b p h1 h2
    exact ⟨a1, a2, a3, own_kept a4 hg fun k hk hv => own_ne_own a4 hO (by decide) k hk hv⟩⟩
theorem OutIn.snoc {w : World} {base : Nat} {os : List Bt} {pl : List Bat} (h : OutIn w base os pl) {b : Bt} {p : Bat} (h1 : b.t = p.t) (h2 : b.n = p.ps.length) (h3 : p.ps ≠ []) (h4 : Own w base 3 1 intEnc (.slice b.A b.n b.c) p.ps) : OutIn w base (os ++ [b]) (pl ++ [p]) :=
  ⟨by rw [List.length_append, List.length_append, h.len]; rfl, fun i b' p' hb hp => by
    rcases Nat.lt_or_ge i os.length with hi | hi
    · rw [List.getElem?_append_left hi] at hb
      rw [List.getElem?_append_left (by rw [← h.len]; exact hi)] at hp
      exact h.in_ i b' p' hb hp
    · rw [List.getElem?_append_right hi] at hb
      rw [List.getElem?_append_right (by rw [← h.len]; exact hi), ← h.len] at hp
      have hz : i - os.length = 0 := by
        have := (List.getElem?_eq_some_iff.1 hb).1
        simp at this; omega
      rw [hz] at hb hp
      simp at hb hp
      subst hb hp
      exact ⟨h1, h2, h3, h4⟩⟩
theorem OutIn.plan {w : World} {base : Nat} {os : List Bt} {pl : List Bat} {A : Option Addr} (h : OutIn w base os pl) (hS : Slc Bt.enc 2 w w.heap.size A os) : PlanAt w A os pl :=
  ⟨hS, h.len, fun i b p h1 h2 => by
    obtain ⟨a1, a2, a3, a4⟩ := h.in_ i b p h1 h2
    rw [a2] at a4
    exact ⟨a1, a2, a4.slc fun _ => rfl⟩⟩
/-- a store into the block of an owned list -/
theorem own_putF {α : Type} {f : α → List Value} {sz : Nat} {w w' : World} {base b cap n : Nat} {e : TypeId} {l l' : List α} {js : List Value} (hf : ∀ x, (f x).length = sz) (h : Own w base e sz f (.slice (some ⟨b, 0, none⟩) n cap) l) (hl : l'.length = l.length) (hw : Blk w b e (l.flatMap f ++ js).toArray) (hw' : Blk w' b e (l'.flatMap f ++ js).toArray) : Own w' base e sz f (.slice (some ⟨b, 0, none⟩) n cap) l' := by
  refine ⟨flat_len hf l', .inr ?_⟩
  have hfl : (l'.flatMap f).length = (l.flatMap f).length := by rw [flat_len hf, flat_len hf, hl]
  rcases h.2 with ⟨h1, _⟩ | ⟨g, cap', cur, h1, h2, h3, h4, h5, h6, h7⟩
  · cases h1
  · injection h1 with h1 h8 h9
    injection h1 with h1
    injection h1 with h1
    subst h1 h8 h9
    have ec : cur = (l.flatMap f ++ js).toArray := by
      have h10 : w.heap[b]? = some (Obj.cells (l.flatMap f ++ js).toArray e (0, 0)) := hw
      rw [h3] at h10
      injection h10 with h10
      injection h10
    subst ec
    refine ⟨b, cap, _, by rw [hl], h2, hw', by omega, h5, ?_, ?_⟩
    · rw [← h6]
      simp only [List.size_toArray, List.length_append, hfl]
    · rw [List.take_append_of_le_length (by rw [flat_len hf]; exact Nat.le_refl _)]
      exact List.take_of_length_le (by rw [flat_len hf]; exact Nat.le_refl _)
end Go.Proofs.YtkcfalehebacpaaDoor
