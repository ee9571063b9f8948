/- Parts of the proofs of this seat: DoP, Ped, Trace, TopP. Each part says what it proves; no condition beyond those stated there. -/
import Derived.Test.YtehlbomkldnalaaGreatQ2
import Derived.Test.YtehlbomkldnalaaGreatQ14
import Derived.Test.YtehlbomkldnalaaGreatQ16
import Derived.Test.YtehlbomkldnalaaGreatQ22

/- What a call of a script does to a store: plain. -/
namespace Go.Proofs.YtehlbomkldnalaaGreat
open Go.RowKit
def rollOf (x : CallV) (fs : List Pt) : Roll := ⟨x.id, x.gr, x.co, x.lo, x.ma, x.wi, x.le, fs⟩
def needOf (x : CallV) : Need := ⟨x.ng, x.nq, x.nw, x.nl, x.nk⟩
def kd (x : CallV) : Int := (IntKind.u64.wrap x.kind).tmod 9
noncomputable def expireS (s : SS) (day : Int) : SS := if inB 0 day 100000 then expS s day else s
def recallS (s : SS) (lot : Int) : SS := if (look s.lots lot).isSome then rec2 s lot else s
noncomputable def doF (s : SS) (x : CallV) (fs : List Pt) : SS :=
 if kd x = 0 then recS s (rollOf x fs)
 else if kd x = 1 then takeS s (needOf x) x.day
 else if kd x = 2 then takeS s (needOf x) x.day
 else if kd x = 3 then useS s x.cid x.what
 else if kd x = 4 then backS s x.cid
 else if kd x = 5 then scrapF s x.cid
 else if kd x = 6 then expireS s x.day
 else if kd x = 7 then recallS s x.what
 else s
section
variable {s t : SS} {r : Nat}
theorem expire_inv (h : Inv s) (day : Int) : Inv (expireS s day) ∧ Ext s (expireS s day) := by
 unfold expireS
 split
 ·exact ⟨(exp_all h day).1, (exp_all h day).2.1.ext⟩
 ·exact ⟨h, Ext.refl s⟩
theorem recall_inv (h : Inv s) (lot : Int) : Inv (recallS s lot) ∧ Ext s (recallS s lot) := by
 unfold recallS
 split
 ·exact ⟨(rec_all h lot).1, (rec_all h lot).2.1.ext⟩
 ·exact ⟨h, Ext.refl s⟩
theorem do_inv (h : Inv s) (x : CallV) (fs : List Pt) : Inv (doF s x fs) ∧ Ext s (doF s x fs) := by
 unfold doF
 repeat' split
 ·exact rec_inv h _
 ·exact take_inv h _ _
 ·exact take_inv h _ _
 ·exact use_inv h _ _
 ·exact back_inv h _
 ·exact scrap_inv h _
 ·exact expire_inv h _
 ·exact recall_inv h _
 ·exact ⟨h, Ext.refl s⟩
theorem More.room {a b c : Nat} {d : Int} {k : Nat} (h : Room s (r + k)) (m : More s t a b c d) (ha : a ≤ 4 * k) (hb : b ≤ 4 * k) (hc : c ≤ 4 * k) (hd : d ≤ 4 * k) : Room t r :=
 ⟨by have := h.it; have := m.it; omega, by have := h.pc; have := m.pc; omega, by have := h.pa; have := m.pa; omega, by have := h.lo; have := m.lo; omega, by have := h.la; have := m.la; omega, by have := h.re; have := m.re; omega⟩
theorem more_refl (s : SS) : More s s 0 0 0 0 := ⟨Nat.le_refl _, Nat.le_refl _, Nat.le_refl _, Nat.le_refl _, by omega, Int.le_refl _⟩
theorem more_scrap (s : SS) (id : Int) : More s (scrapF s id) 0 0 0 0 := by
 unfold scrapF
 split
 ·exact ⟨len_del _ _, Nat.le_refl _, Nat.le_refl _, Nat.le_refl _, by show s.last ≤ s.last + 0; omega, Int.le_refl _⟩
 ·split
  ·exact ⟨Nat.le_refl _, len_del _ _, Nat.le_refl _, Nat.le_refl _, by show s.last ≤ s.last + 0; omega, Int.le_refl _⟩
  ·exact more_refl s
theorem more_scrapI (P : Sheet → Bool) : ∀ (l : List Sheet) (s : SS), More s (scrapI P l s) 0 0 0 0
 | [], s => more_refl s
 | x :: l, s => by
  have : scrapI P (x :: l) s = scrapI P l (if P x then scrapF s x.id else s) := rfl
  rw [this]
  split
  ·exact (more_scrap s x.id).trans (more_scrapI P l _)
  ·exact more_scrapI P l s
theorem more_scrapP (P : Piece → Bool) : ∀ (l : List Piece) (s : SS), More s (scrapP P l s) 0 0 0 0
 | [], s => more_refl s
 | x :: l, s => by
  have : scrapP P (x :: l) s = scrapP P l (if P x then scrapF s x.id else s) := rfl
  rw [this]
  split
  ·exact (more_scrap s x.id).trans (more_scrapP P l _)
  ·exact more_scrapP P l s
theorem more_use (s : SS) (a b : Int) : More s (useS s a b) 0 1 0 0 := by
 unfold useS
 split
 ·unfold useFn
  split
  ·exact ⟨Nat.le_refl _, len_put _ _ _, Nat.le_refl _, Nat.le_refl _, by show s.last ≤ s.last + 0; omega, Int.le_refl _⟩
  ·exact ⟨Nat.le_refl _, by omega, Nat.le_refl _, Nat.le_refl _, by omega, Int.le_refl _⟩
 ·exact ⟨Nat.le_refl _, by omega, Nat.le_refl _, Nat.le_refl _, by omega, Int.le_refl _⟩
theorem more_back (s : SS) (a : Int) : More s (backS s a) 1 0 0 0 := by
 unfold backS
 have h0 : More s s 1 0 0 0 := ⟨by omega, Nat.le_refl _, Nat.le_refl _, Nat.le_refl _, by omega, Int.le_refl _⟩
 cases hq : look s.pieces a with
 | none => exact h0
 | some q =>
  dsimp only
  split
  ·unfold backFn
   split
   ·exact ⟨by show s.items.length ≤ _; omega, len_del _ _, Nat.le_refl _, Nat.le_refl _, by show s.last ≤ s.last + 0; omega, Int.le_refl _⟩
   ·exact ⟨len_put _ _ _, len_del _ _, Nat.le_refl _, Nat.le_refl _, by show s.last ≤ s.last + 0; omega, Int.le_refl _⟩
  ·exact h0
theorem room_rec (h : Room s (r + 1)) (q : Roll) : Room (recS s q) r := by
 unfold recS
 split
 ·rename_i he
  have hv : validRoll q = true := by
   unfold recE at he
   split at he
   ·assumption
   ·exact absurd he (by decide)
  obtain ⟨b1, b2, b3, b4, b5, b6, b7, b8, b9⟩ := roll_bd hv
  have ar := mul_le_mul0 (a := q.width) (b := 150) (c := q.length) (e := 6000) (by omega) b6.2 (by omega) b7.2
  refine ⟨?_, ?_, ?_, ?_, ?_, ?_⟩
  ·have := len_put s.items q.id (rollItem q); have := h.it; show (put s.items q.id (rollItem q)).length + 4 * r ≤ _; omega
  ·have := h.pc; show s.pieces.length + 4 * r ≤ _; omega
  ·have := len_put s.parent q.id (0 : Int); have := h.pa; show (put s.parent q.id 0).length + 4 * r ≤ _; omega
  ·have := len_put s.lots q.lot (⟨q.grade, q.colour, q.made⟩ : Kin); have := h.lo; show (put s.lots q.lot ⟨q.grade, q.colour, q.made⟩).length + 4 * r ≤ _; omega
  ·have h1 := h.la; have h2 := h.it
   show imax s.last q.id + 4 * (r : Int) ≤ _
   unfold imax; split <;> omega
  ·have := h.re
   show s.received + q.width * q.length + 1000000 * (r : Int) ≤ _
   omega
 ·exact h.less (by omega)
theorem do_room (h : Room s (r + 50)) (x : CallV) (fs : List Pt) : Room (doF s x fs) r := by
 unfold doF
 repeat' split
 ·exact room_rec (h.less (by omega)) _
 ·exact take_room h _ _
 ·exact take_room h _ _
 ·exact More.room (k := 1) (h.less (by omega)) (more_use s _ _) (by omega) (by omega) (by omega) (by omega)
 ·exact More.room (k := 1) (h.less (by omega)) (more_back s _) (by omega) (by omega) (by omega) (by omega)
 ·exact More.room (k := 1) (h.less (by omega)) (more_scrap s _) (by omega) (by omega) (by omega) (by omega)
 ·unfold expireS
  split
  ·exact More.room (k := 1) (h.less (by omega)) (more_scrapI _ _ s) (by omega) (by omega) (by omega) (by omega)
  ·exact h.less (by omega)
 ·unfold recallS
  split
  ·exact More.room (k := 1) (h.less (by omega)) ((more_scrapI _ _ s).trans (more_scrapP _ _ _)) (by omega) (by omega) (by omega) (by omega)
  ·exact h.less (by omega)
 ·exact h.less (by omega)
theorem new_room {r : Shelf} : Room ⟨r, [], [], [], [], 0, 0, 0⟩ 100000 := ⟨by simp, by simp, by simp, by simp, by simp, by simp⟩
end
end Go.Proofs.YtehlbomkldnalaaGreat

/- The pedigree of what a store shows: plain. -/
namespace Go.Proofs.YtehlbomkldnalaaGreat
/-- an Id's parents lead to a root -/
inductive Ends (s : SS) : Int → Int → Prop
 | here {k : Int} : look s.parent k = some 0 → Ends s k k
 | up {k u r : Int} : look s.parent k = some u → u ≠ 0 → Ends s u r → Ends s k r
def Pm (s t : SS) : Prop := ∀ k u, look s.parent k = some u → look t.parent k = some u
def Low (s : SS) : Prop := ∀ k u, look s.parent k = some u → k ≤ s.last
section
variable {s t : SS} {R : List (Int × Int)}
theorem Pm.refl (s : SS) : Pm s s := fun _ _ h => h
theorem Pm.trans {a b c : SS} (h : Pm a b) (k : Pm b c) : Pm a c := fun i u hi => k i u (h i u hi)
theorem Ends.pm (h : Pm s t) {k r : Int} (he : Ends s k r) : Ends t k r := by
 induction he with
 | here hk => exact .here (h _ _ hk)
 | up hk hu _ ih => exact .up (h _ _ hk) hu ih
theorem Ends.root {k r : Int} (he : Ends s k r) : look s.parent r = some 0 := by
 induction he with
 | here hk => exact hk
 | up _ _ _ ih => exact ih
/-- what is shown has its pedigree, and its roll has its lot -/
structure Ped (R : List (Int × Int)) (s : SS) : Prop where
 it : ∀ k x, look s.items k = some x → Ends s k x.root ∧ look R x.root = some x.lot
 pc : ∀ k x, look s.pieces k = some x → Ends s k x.root ∧ look R x.root = some x.lot
theorem Ped.sub (h : Ped R s) (hp : Pm s t) (hi : ∀ k x, look t.items k = some x → look s.items k = some x) (hq : ∀ k x, look t.pieces k = some x → look s.pieces k = some x) : Ped R t :=
 ⟨fun k x hk => ⟨(h.it k x (hi k x hk)).1.pm hp, (h.it k x (hi k x hk)).2⟩, fun k x hk => ⟨(h.pc k x (hq k x hk)).1.pm hp, (h.pc k x (hq k x hk)).2⟩⟩
theorem Low.of (h : Inv s) : Low s := fun k u hk => (h.pa k u hk).1.2
/-- the Ids from one up to its root -/
inductive Chain (s : SS) : Int → List Int → Prop
 | here {k : Int} : look s.parent k = some 0 → Chain s k [k]
 | up {k u : Int} {l : List Int} : look s.parent k = some u → u ≠ 0 → Chain s u l → Chain s k (k :: l)
theorem nodup_len : ∀ (l K : List Int), l.Nodup → (∀ x ∈ l, x ∈ K) → l.length ≤ K.length
 | [], _, _, _ => Nat.zero_le _
 | x :: l, K, hn, hk => by
  obtain ⟨h1, h2⟩ := List.nodup_cons.1 hn
  have hx := hk x (List.mem_cons_self ..)
  have ih := nodup_len l (K.erase x) h2 fun y hy => (List.mem_erase_of_ne (by rintro rfl; exact h1 hy)).2 (hk y (List.mem_cons_of_mem _ hy))
  rw [List.length_erase_of_mem hx] at ih
  have := List.length_pos_of_mem hx
  simp only [List.length_cons]
  omega
theorem Chain.low (h : Inv s) {k : Int} {l : List Int} (hc : Chain s k l) : (∀ x ∈ l, x ≤ k ∧ x ∈ s.parent.map (·.1)) ∧ l.Nodup := by
 have mem : ∀ {k u : Int}, look s.parent k = some u → k ∈ s.parent.map (·.1) := fun {k u} hk => List.mem_map.2 ⟨(k, u), mem_of_look hk, rfl⟩
 induction hc with
 | here hk => exact ⟨fun x hx => by rw [List.mem_singleton.1 hx]; exact ⟨Int.le_refl _, mem hk⟩, by simp⟩
 | up hk hu _ ih =>
  have hlt : _ := (h.pa _ _ hk).2
  refine ⟨fun x hx => ?_, ?_⟩
  ·rcases List.mem_cons.1 hx with rfl | hx
   ·exact ⟨Int.le_refl _, mem hk⟩
   ·have := ih.1 x hx
    exact ⟨by omega, this.2⟩
  ·refine List.nodup_cons.2 ⟨fun hm => ?_, ih.2⟩
   have := (ih.1 _ hm).1
   omega
theorem Chain.len (h : Inv s) {k : Int} {l : List Int} (hc : Chain s k l) : l.length ≤ s.parent.length := by
 obtain ⟨h1, h2⟩ := hc.low h
 have := nodup_len l _ h2 fun x hx => (h1 x hx).2
 simpa using this
end
end Go.Proofs.YtehlbomkldnalaaGreat

/- Trace: the walk. -/
namespace Go.Proofs.YtehlbomkldnalaaGreat
open Go Go.RowKit
theorem Own.one_ {w : World} {base g : Nat} {e : TypeId} {x : Int} (h : Blk w g e #[x]) (hg : base ≤ g) : Own w base e 1 intEnc (.slice (some ⟨g, 0, none⟩) 1 1) [x] :=
 ⟨by simp [intEnc], .inr ⟨g, 1, #[x], rfl, hg, h, Nat.le_refl _, by unfold maxLen; omega, by simp, by simp [intEnc]⟩⟩
theorem Chain.next {s : SS} {k : Int} {l : List Int} (h : Chain s k l) : ∃ u r, look s.parent k = some u ∧ l = k :: r ∧ ((u = 0 ∧ r = []) ∨ (u ≠ 0 ∧ Chain s u r)) := by
 cases h with
 | here hk => exact ⟨0, [], hk, rfl, .inl ⟨rfl, rfl⟩⟩
 | up hk hu hc => exact ⟨_, _, hk, rfl, .inr ⟨hu, hc⟩⟩
set_option maxRecDepth 100000 in
set_option maxHeartbeats 2000000 in
theorem trace_any (p : Fp) (s : SS) (id : Int) (l : List Int) (w : World) (hX : StA w p s) (hI : Inv s) (hF : Few s) (hC : Chain s id l) :
  Calls Tryz.prog 34 #[.pointer (some ⟨p.g, 0, none⟩), id] w fun e w' => ∃ A c, e = .returned (.tuple #[.slice A l.length c, .int .i64 0]) ∧ Slc intEnc 1 w' w'.heap.size A l ∧ Below w.heap.size w w' := by
 have HI := hide hI
 have HX := hide hX
 have HLL := hide (Nat.le_trans (hC.len hI) hF.pa)
 obtain ⟨u, r, hu, hl, hc⟩ := hC.next
 have HL := hide hl
 have HC := hide hc
 have HU := hide (hI.pa _ _ hu).2
 have lk := hX.parent.look_yes (P := Tryz.prog) (t := 64) Tryz.underlying64 Tryz.underlying3 (look_kv_some hu) true
 have c5 := hX.blk.cell_ 5 (v := .bool true) rfl
 have c8 := hX.blk.cell_ 8 (v := .map (some p.rq)) rfl
 clear hI hX hF hu hl hc hC
 go_enter Tryz.func34, Tryz.ntmps34
 go_wp2_with fail
 refine (none_any p.g _ c5).mono ?_
 rintro e W' ⟨rfl, rfl⟩
 clear c5
 go_upto_region 7 with fail
 clear lk c8
 have hO := Own.one_ (base := w.heap.size) (Blk.new w 3 #[id]) (Nat.le_refl _)
 have hB := (Below.refl w.heap.size w).alloc (Nat.le_refl _) (.cells #[id] 3)
 generalize w.alloc (.cells #[id] 3) = W at *
 go_loopw [6, 8] (fun z v wr => ∃ (up : Int) (out rest : List Int), z = .int .i64 up ∧ Own wr w.heap.size 3 1 intEnc v out ∧ Hid (out ++ rest = l) ∧ Hid ((up = 0 ∧ rest = []) ∨ (up ≠ 0 ∧ Chain s up rest)) ∧ Hid (0 ≤ up) ∧ Below w.heap.size w wr) (fun z _ _ => (intOf z).toNat)
 case atStart => exact ⟨u, [id], r, rfl, hO, (by show _ = _; rw [HL.out]; rfl : Hid _), HC, (by show _ ≤ _; rcases HU.out with h | h <;> omega : Hid _), hB⟩
 case round =>
  clear hO hB HC HU
  obtain ⟨W, rfl⟩ := is_ wr
  obtain ⟨up, out, rest, rfl, hO, HO, HC, H0, hB⟩ := hrel
  by_cases hz : up = 0
  ·have HR : Hid (out = l) := by
    show out = l
    rcases HC.out with ⟨_, h⟩ | ⟨h, _⟩
    ·rw [← HO.out, h, List.append_nil]
    ·exact absurd hz h
   have hzn : (up != 0) = false := by simp [hz]
   obtain ⟨A, c, rfl, hsl⟩ := hO.form (fun _ => rfl)
   clear hO
   go_wp2_with fail
   go_ret2
   exact ⟨A, c, by rw [← HR.out]; rfl, by rw [← HR.out]; exact hsl, hB⟩
  ·have hzn : (up != 0) = true := by simp [hz]
   obtain ⟨u2, r2, hu2, hl2, hc2⟩ : ∃ u r, look s.parent up = some u ∧ rest = up :: r ∧ ((u = 0 ∧ r = []) ∨ (u ≠ 0 ∧ Chain s u r)) := by
    rcases HC.out with ⟨h, _⟩ | ⟨_, h⟩
    ·exact absurd h hz
    ·exact h.next
   have HP := hide (HI.out.pa _ _ hu2)
   have HO2 : Hid (out ++ [up] ++ r2 = l) := by show _ = _; rw [List.append_assoc, List.singleton_append, ← hl2]; exact HO.out
   have HC2 := hide hc2
   have hll : out.length ≤ 1000000 := by
    have h1 := congrArg List.length HO.out
    rw [List.length_append] at h1
    have := HLL.out
    omega
   have HKU := hide hu2
   clear hu2 hl2 hc2
   have hsz := hB.size
   go_upto_region 9 with (at_builtin; refine wpList_app_own (base := w.heap.size) (f := intEnc) (ys := [up]) _ _ rfl rfl et_ints (hO.alloc _) rfl rfl ((Blk.new W 3 #[up]).slc1 rfl) rfl (fun _ => rfl) intEnc_one (by simp <;> omega) (by simp <;> omega) ?_; intro v6 W6 hO6 hb6 hg6)
   have hal := (Below.refl W.heap.size W).alloc (Nat.le_refl _) (.cells #[up] 3)
   replace hB := (hB.trans (hal.mono hB.size)).trans hb6
   clear hO hal hb6 hg6 hsz
   have hX6 := HX.out.below hB
   have lk := hX6.parent.look_yes (P := Tryz.prog) (t := 64) Tryz.underlying64 Tryz.underlying3 (look_kv_some HKU.out) false
   have c8 := hX6.blk.cell_ 8 (v := .map (some p.rq)) rfl
   clear hX6
   go_wp2_with fail
   clear lk c8
   go_roundw
   case rel => exact ⟨u2, out ++ [up], r2, rfl, hO6, HO2, HC2, (by show _ ≤ _; rcases HP.out.2 with h | h <;> omega : Hid _), hB⟩
   case measure =>
    have h1 := HP.out
    have h2 := H0.out
    simp [intOf]; omega
theorem trace_none (p : Fp) (s : SS) (id : Int) (w : World) (hX : StA w p s) (hn : look s.parent id = none) :
  Calls Tryz.prog 34 #[.pointer (some ⟨p.g, 0, none⟩), id] w fun e w' => e = .returned (.tuple #[.slice none 0 0, .int .i64 5]) ∧ w = w' := by
 have lk := hX.parent.look_no (P := Tryz.prog) (t := 64) (z := .int .i64 0) Tryz.underlying64 Tryz.underlying3 (fun w => by kernel_rfl) (look_kv_none hn) true
 have c5 := hX.blk.cell_ 5 (v := .bool true) rfl
 have c8 := hX.blk.cell_ 8 (v := .map (some p.rq)) rfl
 clear hX hn
 go_enter Tryz.func34, Tryz.ntmps34
 go_wp2_with fail
 refine (none_any p.g _ c5).mono ?_
 rintro e W' ⟨rfl, rfl⟩
 clear c5
 go_wp2_with fail
 go_ret2
 exact ⟨rfl, rfl⟩
end Go.Proofs.YtehlbomkldnalaaGreat

/- The areas of what a store shows, place by place: plain. -/
namespace Go.Proofs.YtehlbomkldnalaaGreat
def sumL {V : Type} (f : V → Int) (l : List V) : Int := (l.map f).sum
theorem sumL_snoc {V : Type} (f : V → Int) (l : List V) (x : V) : sumL f (l ++ [x]) = sumL f l + f x := by unfold sumL; rw [List.map_append, List.sum_append]; simp
theorem sumL_take {V : Type} (f : V → Int) {l : List V} {i : Nat} {x : V} (h : l[i]? = some x) : sumL f (l.take (i + 1)) = sumL f (l.take i) + f x := by rw [List.take_add_one, h, Option.toList_some, sumL_snoc]
theorem perm_sum {a b : List Int} (h : a.Perm b) : a.sum = b.sum := by
 induction h with
 | nil => rfl
 | cons x _ ih => simp [ih]
 | swap x y l => simp; omega
 | trans _ _ h1 h2 => exact h1.trans h2
theorem sumL_vals {V : Type} (f : V → Int) {M : List (Int × V)} (hn : NodupK M) : sumL f (valsS M) = sumM f M := by
 unfold sumL sumM
 have h := (vals_perm hn).map f
 rw [List.map_map] at h
 exact perm_sum h
section
variable {s : SS}
theorem stock_list (h : Inv s) : sumL areaS (itemsL s) = stockF s := sumL_vals _ h.ki
theorem free_list (h : Inv s) : sumL pA (piecesL s) = freeF s := sumL_vals _ h.kp
theorem used_list (h : Inv s) : sumL pU (piecesL s) = usedF s := sumL_vals _ h.kp
theorem piece_in (h : Inv s) {x : Piece} (hx : x ∈ piecesL s) : look s.pieces x.id = some x := ((pieces_shows h).m x).1 hx
theorem piece_parts (h : Inv s) {x : Piece} (hx : x ∈ piecesL s) : (0 ≤ pA x ∧ pA x ≤ 900000) ∧ (0 ≤ pU x ∧ pU x ≤ 900000) := by
 have := piece_area h (piece_in h hx)
 unfold pA pU
 split <;> omega
end
end Go.Proofs.YtehlbomkldnalaaGreat
