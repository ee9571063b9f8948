/- Parts of the proofs of this seat: DoP, Ped, Trace, Traced, TopP, TopQ. Each part says what it proves; no condition beyond those stated there. -/
import Derived.Test.YtpeokpnjnmgloaaM2
import Derived.Test.YtpeokpnjnmgloaaM15
import Derived.Test.YtpeokpnjnmgloaaM24
import Derived.Test.YtpeokpnjnmgloaaM26
import Derived.Test.YtpeokpnjnmgloaaM28
import Derived.Test.YtpeokpnjnmgloaaM34

/- What a call of a script does to a store: plain. -/
namespace Go.Proofs.Ytpeokpnjnmgloaa
open Go.RowKit
def rollOf (x : CallV) (fs : List Pt) : Roll := ⟨x.id, x.gr, x.co, x.lo, x.ma, x.wi, x.le, fs⟩
def needOf (x : CallV) : Need := ⟨x.ng, x.nq, x.nw, x.nl, x.nk⟩
def kd (x : CallV) : Int := (IntKind.u64.wrap x.kind).tmod 9
noncomputable def expireS (s : SS) (day : Int) : SS := if inB 0 day 100000 then expS s day else s
def recallS (s : SS) (lot : Int) : SS := if (look s.lots lot).isSome then rec2 s lot else s
noncomputable def doF (s : SS) (x : CallV) (fs : List Pt) : SS :=
  if kd x = 0 then recS s (rollOf x fs)
  else if kd x = 1 then takeS s (needOf x) x.day
  else if kd x = 2 then takeS s (needOf x) x.day
  else if kd x = 3 then useS s x.cid x.what
  else if kd x = 4 then backS s x.cid
  else if kd x = 5 then scrapF s x.cid
  else if kd x = 6 then expireS s x.day
  else if kd x = 7 then recallS s x.what
  else s
section
variable {s t : SS} {r : Nat}
theorem expire_inv (h : Inv s) (day : Int) : Inv (expireS s day) ∧ Ext s (expireS s day) := by
  unfold expireS
  split
  · exact ⟨(exp_all h day).1, (exp_all h day).2.1.ext⟩
  · exact ⟨h, Ext.refl s⟩
theorem recall_inv (h : Inv s) (lot : Int) : Inv (recallS s lot) ∧ Ext s (recallS s lot) := by
  unfold recallS
  split
  · exact ⟨(rec_all h lot).1, (rec_all h lot).2.1.ext⟩
  · exact ⟨h, Ext.refl s⟩
theorem do_inv (h : Inv s) (x : CallV) (fs : List Pt) : Inv (doF s x fs) ∧ Ext s (doF s x fs) := by
  unfold doF
  repeat' split
  · exact rec_inv h _
  · exact take_inv h _ _
  · exact take_inv h _ _
  · exact use_inv h _ _
  · exact back_inv h _
  · exact scrap_inv h _
  · exact expire_inv h _
  · exact recall_inv h _
  · exact ⟨h, Ext.refl s⟩
theorem More.room {a b c : Nat} {d : Int} {k : Nat} (h : Room s (r + k)) (m : More s t a b c d) (ha : a ≤ 4 * k) (hb : b ≤ 4 * k) (hc : c ≤ 4 * k) (hd : d ≤ 4 * k) : Room t r :=
  ⟨by have := h.it; have := m.it; omega, by have := h.pc; have := m.pc; omega, by have := h.pa; have := m.pa; omega, by have := h.lo; have := m.lo; omega, by have := h.la; have := m.la; omega, by have := h.re; have := m.re; omega⟩
theorem more_refl (s : SS) : More s s 0 0 0 0 := ⟨Nat.le_refl _, Nat.le_refl _, Nat.le_refl _, Nat.le_refl _, by omega, Int.le_refl _⟩
theorem more_scrap (s : SS) (id : Int) : More s (scrapF s id) 0 0 0 0 := by
  unfold scrapF
  split
  · exact ⟨len_del _ _, Nat.le_refl _, Nat.le_refl _, Nat.le_refl _, by show s.last ≤ s.last + 0; omega, Int.le_refl _⟩
  · split
    · exact ⟨Nat.le_refl _, len_del _ _, Nat.le_refl _, Nat.le_refl _, by show s.last ≤ s.last + 0; omega, Int.le_refl _⟩
    · exact more_refl s
theorem more_scrapI (P : Sheet → Bool) : ∀ (l : List Sheet) (s : SS), More s (scrapI P l s) 0 0 0 0
  | [], s => more_refl s
  | x :: l, s => by
    have : scrapI P (x :: l) s = scrapI P l (if P x then scrapF s x.id else s) := rfl
    rw [this]
    split
    · exact (more_scrap s x.id).trans (more_scrapI P l _)
    · exact more_scrapI P l s
theorem more_scrapP (P : Piece → Bool) : ∀ (l : List Piece) (s : SS), More s (scrapP P l s) 0 0 0 0
  | [], s => more_refl s
  | x :: l, s => by
    have : scrapP P (x :: l) s = scrapP P l (if P x then scrapF s x.id else s) := rfl
    rw [this]
    split
    · exact (more_scrap s x.id).trans (more_scrapP P l _)
    · exact more_scrapP P l s
theorem more_use (s : SS) (a b : Int) : More s (useS s a b) 0 1 0 0 := by
  unfold useS
  split
  · unfold useFn
    split
    · exact ⟨Nat.le_refl _, len_put _ _ _, Nat.le_refl _, Nat.le_refl _, by show s.last ≤ s.last + 0; omega, Int.le_refl _⟩
    · exact ⟨Nat.le_refl _, by omega, Nat.le_refl _, Nat.le_refl _, by omega, Int.le_refl _⟩
  · exact ⟨Nat.le_refl _, by omega, Nat.le_refl _, Nat.le_refl _, by omega, Int.le_refl _⟩
theorem more_back (s : SS) (a : Int) : More s (backS s a) 1 0 0 0 := by
  unfold backS
  have h0 : More s s 1 0 0 0 := ⟨by omega, Nat.le_refl _, Nat.le_refl _, Nat.le_refl _, by omega, Int.le_refl _⟩
  cases hq : look s.pieces a with
  | none => exact h0
  | some q =>
    dsimp only
    split
    · unfold backFn
      split
      · exact ⟨by show s.items.length ≤ _; omega, len_del _ _, Nat.le_refl _, Nat.le_refl _, by show s.last ≤ s.last + 0; omega, Int.le_refl _⟩
      · exact ⟨len_put _ _ _, len_del _ _, Nat.le_refl _, Nat.le_refl _, by show s.last ≤ s.last + 0; omega, Int.le_refl _⟩
    · exact h0
theorem room_rec (h : Room s (r + 1)) (q : Roll) : Room (recS s q) r := by
  unfold recS
  split
  · rename_i he
    have hv : validRoll q = true := by
      unfold recE at he
      split at he
      · assumption
      · exact absurd he (by decide)
    obtain ⟨b1, b2, b3, b4, b5, b6, b7, b8, b9⟩ := roll_bd hv
    have ar := mul_le_mul0 (a := q.width) (b := 150) (c := q.length) (e := 6000) (by omega) b6.2 (by omega) b7.2
    refine ⟨?_, ?_, ?_, ?_, ?_, ?_⟩
    · have := len_put s.items q.id (rollItem q); have := h.it; show (put s.items q.id (rollItem q)).length + 4 * r ≤ _; omega
    · have := h.pc; show s.pieces.length + 4 * r ≤ _; omega
    · have := len_put s.parent q.id (0 : Int); have := h.pa; show (put s.parent q.id 0).length + 4 * r ≤ _; omega
    · have := len_put s.lots q.lot (⟨q.grade, q.colour, q.made⟩ : Kin); have := h.lo; show (put s.lots q.lot ⟨q.grade, q.colour, q.made⟩).length + 4 * r ≤ _; omega
    · have h1 := h.la; have h2 := h.it
      show imax s.last q.id + 4 * (r : Int) ≤ _
      unfold imax; split <;> omega
    · have := h.re
      show s.received + q.width * q.length + 1000000 * (r : Int) ≤ _
      omega
  · exact h.less (by omega)
theorem do_room (h : Room s (r + 50)) (x : CallV) (fs : List Pt) : Room (doF s x fs) r := by
  unfold doF
  repeat' split
  · exact room_rec (h.less (by omega)) _
  · exact take_room h _ _
  · exact take_room h _ _
  · exact More.room (k := 1) (h.less (by omega)) (more_use s _ _) (by omega) (by omega) (by omega) (by omega)
  · exact More.room (k := 1) (h.less (by omega)) (more_back s _) (by omega) (by omega) (by omega) (by omega)
  · exact More.room (k := 1) (h.less (by omega)) (more_scrap s _) (by omega) (by omega) (by omega) (by omega)
  · unfold expireS
    split
    · exact More.room (k := 1) (h.less (by omega)) (more_scrapI _ _ s) (by omega) (by omega) (by omega) (by omega)
    · exact h.less (by omega)
  · unfold recallS
    split
    · exact More.room (k := 1) (h.less (by omega)) ((more_scrapI _ _ s).trans (more_scrapP _ _ _)) (by omega) (by omega) (by omega) (by omega)
    · exact h.less (by omega)
  · exact h.less (by omega)
theorem new_room {r : Shelf} : Room ⟨r, [], [], [], [], 0, 0, 0⟩ 100000 := ⟨by simp, by simp, by simp, by simp, by simp, by simp⟩
end
end Go.Proofs.Ytpeokpnjnmgloaa

/- The pedigree of what a store shows: plain. -/
namespace Go.Proofs.Ytpeokpnjnmgloaa
/-- an Id's parents lead to a root -/
inductive Ends (s : SS) : Int → Int → Prop
  | here {k : Int} : look s.parent k = some 0 → Ends s k k
  | up {k u r : Int} : look s.parent k = some u → u ≠ 0 → Ends s u r → Ends s k r
def Pm (s t : SS) : Prop := ∀ k u, look s.parent k = some u → look t.parent k = some u
def Low (s : SS) : Prop := ∀ k u, look s.parent k = some u → k ≤ s.last
section
variable {s t : SS} {R : List (Int × Int)}
theorem Pm.refl (s : SS) : Pm s s := fun _ _ h => h
theorem Pm.trans {a b c : SS} (h : Pm a b) (k : Pm b c) : Pm a c := fun i u hi => k i u (h i u hi)
theorem Ends.pm (h : Pm s t) {k r : Int} (he : Ends s k r) : Ends t k r := by
  induction he with
  | here hk => exact .here (h _ _ hk)
  | up hk hu _ ih => exact .up (h _ _ hk) hu ih
theorem Ends.par {k r : Int} (he : Ends s k r) (e : t.parent = s.parent) : Ends t k r := he.pm fun k u h => by rw [e]; exact h
theorem Ends.root {k r : Int} (he : Ends s k r) : look s.parent r = some 0 := by
  induction he with
  | here hk => exact hk
  | up _ _ _ ih => exact ih
/-- what is shown has its pedigree, and its roll has its lot -/
structure Ped (R : List (Int × Int)) (s : SS) : Prop where
  it : ∀ k x, look s.items k = some x → Ends s k x.root ∧ look R x.root = some x.lot
  pc : ∀ k x, look s.pieces k = some x → Ends s k x.root ∧ look R x.root = some x.lot
theorem Ped.sub (h : Ped R s) (hp : Pm s t) (hi : ∀ k x, look t.items k = some x → look s.items k = some x) (hq : ∀ k x, look t.pieces k = some x → look s.pieces k = some x) : Ped R t :=
  ⟨fun k x hk => ⟨(h.it k x (hi k x hk)).1.pm hp, (h.it k x (hi k x hk)).2⟩, fun k x hk => ⟨(h.pc k x (hq k x hk)).1.pm hp, (h.pc k x (hq k x hk)).2⟩⟩
theorem Low.of (h : Inv s) : Low s := fun k u hk => (h.pa k u hk).1.2
theorem ped_add (hL : Low s) (hP : Ped R s) {x : Sheet} {up m : Int} (hx : Ends s up x.root ∧ look R x.root = some x.lot) (hu : up ≠ 0) : Ped R (addF s x up m) ∧ Low (addF s x up m) ∧ Pm s (addF s x up m) := by
  unfold addF
  split
  · exact ⟨⟨fun k y hk => ⟨(hP.it k y hk).1.par rfl, (hP.it k y hk).2⟩, fun k y hk => ⟨(hP.pc k y hk).1.par rfl, (hP.pc k y hk).2⟩⟩, hL, fun _ _ h => h⟩
  · have hm : Pm s { s with last := s.last + 1, parent := put s.parent (s.last + 1) up, items := put s.items (s.last + 1) { x with id := s.last + 1 } } := fun k u hk => by
      show look (put s.parent (s.last + 1) up) k = some u
      rw [look_put_ne _ _ (by have := hL k u hk; omega)]; exact hk
    refine ⟨⟨fun k y hk => ?_, fun k y hk => ⟨(hP.pc k y hk).1.pm hm, (hP.pc k y hk).2⟩⟩, fun k u hk => ?_, hm⟩
    · have hk' : look (put s.items (s.last + 1) { x with id := s.last + 1 }) k = some y := hk
      rw [look_put] at hk'
      split at hk'
      · rename_i e
        injection hk' with hk'
        subst hk' e
        exact ⟨.up (look_put_self _ _ _) hu (hx.1.pm hm), hx.2⟩
      · exact ⟨(hP.it k y hk').1.pm hm, (hP.it k y hk').2⟩
    · have hk' : look (put s.parent (s.last + 1) up) k = some u := hk
      show k ≤ s.last + 1
      rw [look_put] at hk'
      split at hk'
      · omega
      · have := hL k u hk'; omega
theorem ped_rest (hL : Low s) (hP : Ped R s) {x : Sheet} (hx : Ends s x.id x.root ∧ look R x.root = some x.lot) : Ped R (restF s x) ∧ Low (restF s x) ∧ Pm s (restF s x) := by
  unfold restF
  split
  · refine ⟨⟨fun k y hk => ?_, fun k y hk => ⟨(hP.pc k y hk).1.par rfl, (hP.pc k y hk).2⟩⟩, hL, fun _ _ h => h⟩
    have hk' : look (put s.items x.id x) k = some y := hk
    rw [look_put] at hk'
    split at hk'
    · rename_i e
      injection hk' with hk'
      subst hk' e
      exact ⟨hx.1.par rfl, hx.2⟩
    · exact ⟨(hP.it k y hk').1.par rfl, (hP.it k y hk').2⟩
  · exact ⟨⟨fun k y hk => ⟨(hP.it k y hk).1.par rfl, (hP.it k y hk).2⟩, fun k y hk => ⟨(hP.pc k y hk).1.par rfl, (hP.pc k y hk).2⟩⟩, hL, fun _ _ h => h⟩
theorem ped_piece (hL : Low s) (hP : Ped R s) {n : Need} {lot : Int} {b : Sheet} (hb : Ends s b.id b.root ∧ look R b.root = some b.lot) (hl : b.lot = lot) (h0 : b.id ≠ 0) : Ped R (cutD s n lot b) := by
  have hm : Pm s (cutD s n lot b) := fun k u hk => by
    show look (put s.parent (s.last + 1) b.id) k = some u
    rw [look_put_ne _ _ (by have := hL k u hk; omega)]; exact hk
  refine ⟨fun k y hk => ⟨(hP.it k y hk).1.pm hm, (hP.it k y hk).2⟩, fun k y hk => ?_⟩
  have hk' : look (put s.pieces (s.last + 1) (pieceF s n lot b)) k = some y := hk
  rw [look_put] at hk'
  split at hk'
  · rename_i e
    injection hk' with hk'
    subst hk' e
    exact ⟨.up (look_put_self _ _ _) h0 (hb.1.pm hm), by show look R b.root = some lot; rw [← hl]; exact hb.2⟩
  · exact ⟨(hP.pc k y hk').1.pm hm, (hP.pc k y hk').2⟩
theorem ped_cut (h : Inv s) (hP : Ped R s) {n : Need} {lot : Int} {b : Sheet} {q : Int} (hb : look s.items b.id = some b) (hl : b.lot = lot) : Ped R (cutD (cutC s n b q) n lot b) := by
  have h0 : b.id ≠ 0 := by have := (h.it _ _ hb).2.id; omega
  have hx := hP.it _ _ hb
  have p0 : Ped R { s with items := del s.items b.id } := hP.sub (fun _ _ h => h) (fun k x hk => by
    have hk' : look (del s.items b.id) k = some x := hk
    rw [look_del] at hk'
    split at hk'
    · cases hk'
    · exact hk') (fun _ _ h => h)
  have l0 : Low { s with items := del s.items b.id } := fun k u hk => Low.of h k u hk
  have e0 : Ends { s with items := del s.items b.id } b.id b.root := hx.1.par rfl
  obtain ⟨p1, l1, m1⟩ := ped_add (m := 1) l0 p0 (x := { b with length := q, faults := partF b.faults 0 q }) (up := b.id) ⟨e0, hx.2⟩ h0
  have p1 : Ped R (cutA s b q) := p1
  have l1 : Low (cutA s b q) := l1
  have e1 : Ends (cutA s b q) b.id b.root := e0.pm m1
  obtain ⟨p2, l2, m2⟩ := ped_add (m := s.rules.minWidth) l1 p1 (x := { b with width := b.width - n.width, length := n.length, faults := [] }) (up := b.id) ⟨e1, hx.2⟩ h0
  have p2 : Ped R (cutB s n b q) := p2
  have l2 : Low (cutB s n b q) := l2
  have e2 : Ends (cutB s n b q) b.id b.root := e1.pm m2
  obtain ⟨p3, l3, m3⟩ := ped_rest l2 p2 (x := { b with length := b.length - (q + n.length), faults := partF b.faults (q + n.length) b.length }) ⟨e2, hx.2⟩
  have p3 : Ped R (cutC s n b q) := p3
  have l3 : Low (cutC s n b q) := l3
  have e3 : Ends (cutC s n b q) b.id b.root := e2.pm m3
  exact ped_piece l3 p3 ⟨e3, hx.2⟩ hl h0
theorem ped_one (h : Inv s) (hP : Ped R s) {n : Need} {lot day : Int} {p : Piece} (hc : cutOneF s n lot day = some (t, p)) : Ped R t := by
  unfold cutOneF at hc
  have hch := chosen_is (n := n) (lot := lot) (day := day) h.keyed
  cases hb : chosen s n lot day with
  | none => rw [hb] at hc; cases hc
  | some b =>
    rw [hb] at hc hch
    injection hc with hc
    injection hc with h1 h2
    obtain ⟨c1, c2, _⟩ := hch
    unfold candF at c2
    simp only [Bool.and_eq_true, decide_eq_true_eq] at c2
    rw [← h1]
    exact ped_cut h hP (look_mem h.ki c1) c2.1.1.1
theorem ped_all {n : Need} (hn : NeedOk n) {lot day : Int} : ∀ {k : Nat} {s t : SS} {l : List Piece}, Inv s → Ped R s → cutAllF n lot day k s = some (t, l) → Ped R t
  | 0, s, t, l, _, hP, hc => by
    injection hc with hc
    injection hc with h1 h2
    rw [← h1]; exact hP
  | k + 1, s, t, l, h, hP, hc => by
    unfold cutAllF at hc
    cases h1 : cutAllF n lot day k s with
    | none => rw [h1] at hc; cases hc
    | some q =>
      obtain ⟨s1, l1⟩ := q
      rw [h1] at hc
      dsimp only at hc
      have p1 := ped_all hn h hP h1
      obtain ⟨i1, _⟩ := cutAll_inv hn h h1
      cases h2 : cutOneF s1 n lot day with
      | none => rw [h2] at hc; cases hc
      | some q2 =>
        obtain ⟨s2, p2⟩ := q2
        rw [h2] at hc
        injection hc with hc
        injection hc with h3 h4
        rw [← h3]
        exact ped_one i1 p1 h2
theorem ped_take (h : Inv s) (hP : Ped R s) (n : Need) (day : Int) : Ped R (takeS s n day) := by
  unfold takeS
  split
  · rename_i hv
    cases hq : takeF s n day with
    | none => exact hP
    | some q =>
      obtain ⟨lot, _, hc⟩ := takeFrom_some hq
      exact ped_all (needB_ok hv).1 h hP (l := q.2) (by rw [hc])
  · exact hP
theorem ped_use (hP : Ped R s) (a b : Int) : Ped R (useS s a b) := by
  unfold useS
  split
  · unfold useFn
    cases hp : look s.pieces a with
    | none => exact hP
    | some p =>
      dsimp only
      refine ⟨fun k y hk => ⟨(hP.it k y hk).1.par rfl, (hP.it k y hk).2⟩, fun k y hk => ?_⟩
      have hk' : look (put s.pieces a { p with use := b }) k = some y := hk
      rw [look_put] at hk'
      split at hk'
      · rename_i e
        injection hk' with hk'
        subst hk' e
        exact ⟨(hP.pc _ p hp).1.par rfl, (hP.pc _ p hp).2⟩
      · exact ⟨(hP.pc k y hk').1.par rfl, (hP.pc k y hk').2⟩
  · exact hP
theorem ped_back (hP : Ped R s) (a : Int) : Ped R (backS s a) := by
  unfold backS
  cases hp : look s.pieces a with
  | none => exact hP
  | some p =>
    dsimp only
    have hd : ∀ k y, look (del s.pieces a) k = some y → look s.pieces k = some y := fun k y hk => by
      rw [look_del] at hk
      split at hk
      · cases hk
      · exact hk
    split
    · unfold backFn
      split
      · exact hP.sub (fun _ _ h => h) (fun _ _ h => h) hd
      · refine ⟨fun k y hk => ?_, fun k y hk => ⟨(hP.pc k y (hd k y hk)).1.par rfl, (hP.pc k y (hd k y hk)).2⟩⟩
        have hk' : look (put s.items a (backItem s p)) k = some y := hk
        rw [look_put] at hk'
        split at hk'
        · rename_i e
          injection hk' with hk'
          subst hk' e
          exact ⟨(hP.pc _ p hp).1.par rfl, (hP.pc _ p hp).2⟩
        · exact ⟨(hP.it k y hk').1.par rfl, (hP.it k y hk').2⟩
    · exact hP
theorem ped_scrap (hP : Ped R s) (a : Int) : Ped R (scrapF s a) := by
  unfold scrapF
  split
  · exact hP.sub (fun _ _ h => h) (fun k y hk => by
      have hk' : look (del s.items a) k = some y := hk
      rw [look_del] at hk'
      split at hk'
      · cases hk'
      · exact hk') (fun _ _ h => h)
  · split
    · exact hP.sub (fun _ _ h => h) (fun _ _ h => h) (fun k y hk => by
        have hk' : look (del s.pieces a) k = some y := hk
        rw [look_del] at hk'
        split at hk'
        · cases hk'
        · exact hk')
    · exact hP
theorem ped_expire (h : Inv s) (hP : Ped R s) (d : Int) : Ped R (expireS s d) := by
  unfold expireS
  split
  · obtain ⟨_, a2, a3, a4, _⟩ := exp_all h d
    exact hP.sub (fun k u hk => by rw [a2.pa]; exact hk) (fun k x hk => ((a4 k x).1 hk).1) (fun k x hk => by rw [a3] at hk; exact hk)
  · exact hP
theorem ped_recall (h : Inv s) (hP : Ped R s) (l : Int) : Ped R (recallS s l) := by
  unfold recallS
  split
  · obtain ⟨_, a2, a3, a4⟩ := rec_all h l
    exact hP.sub (fun k u hk => by rw [a2.pa]; exact hk) (fun k x hk => ((a3 k x).1 hk).1) (fun k x hk => ((a4 k x).1 hk).1)
  · exact hP
/-- a roll that is received -/
theorem ped_rec (hP : Ped R s) (r : Roll) : Ped (if recE s r = 0 then put R r.id r.lot else R) (recS s r) := by
  unfold recS
  by_cases he : recE s r = 0
  · rw [if_pos he, if_pos he]
    have hn : look s.parent r.id = none := by
      unfold recE at he
      split at he
      · split at he
        · exact absurd he (by decide)
        · rename_i h; simpa using h
      · exact absurd he (by decide)
    have hm : Pm s (recFn s r) := fun k u hk => by
      show look (put s.parent r.id 0) k = some u
      rw [look_put_ne _ _ (by rintro rfl; rw [hn] at hk; cases hk)]; exact hk
    have hR : ∀ k root lot, Ends s k root → look R root = some lot → look (put R r.id r.lot) root = some lot := fun k root lot hk hl => by
      rw [look_put_ne _ _ (by rintro rfl; have := hk.root; rw [hn] at this; cases this)]; exact hl
    refine ⟨fun k y hk => ?_, fun k y hk => ⟨(hP.pc k y hk).1.pm hm, hR _ _ _ (hP.pc k y hk).1 (hP.pc k y hk).2⟩⟩
    have hk' : look (put s.items r.id (rollItem r)) k = some y := hk
    rw [look_put] at hk'
    split at hk'
    · rename_i e
      injection hk' with hk'
      subst hk' e
      exact ⟨.here (look_put_self _ _ _), look_put_self _ _ _⟩
    · exact ⟨(hP.it k y hk').1.pm hm, hR _ _ _ (hP.it k y hk').1 (hP.it k y hk').2⟩
  · rw [if_neg he, if_neg he]; exact hP
theorem ped_new (r : Shelf) : Ped [] ⟨r, [], [], [], [], 0, 0, 0⟩ := ⟨(fun k x hk => by cases hk), (fun k x hk => by cases hk)⟩
/-- the Ids from one up to its root -/
inductive Chain (s : SS) : Int → List Int → Prop
  | here {k : Int} : look s.parent k = some 0 → Chain s k [k]
  | up {k u : Int} {l : List Int} : look s.parent k = some u → u ≠ 0 → Chain s u l → Chain s k (k :: l)
theorem Ends.chain {k r : Int} (h : Ends s k r) : ∃ l, Chain s k (k :: l) ∧ (k :: l).getLast? = some r := by
  induction h with
  | here hk => exact ⟨[], .here hk, rfl⟩
  | up hk hu _ ih =>
    obtain ⟨l, h1, h2⟩ := ih
    exact ⟨_, .up hk hu h1, by rw [List.getLast?_cons_cons]; exact h2⟩
theorem nodup_len : ∀ (l K : List Int), l.Nodup → (∀ x ∈ l, x ∈ K) → l.length ≤ K.length
  | [], _, _, _ => Nat.zero_le _
  | x :: l, K, hn, hk => by
    obtain ⟨h1, h2⟩ := List.nodup_cons.1 hn
    have hx := hk x (List.mem_cons_self ..)
    have ih := nodup_len l (K.erase x) h2 fun y hy => (List.mem_erase_of_ne (by rintro rfl; exact h1 hy)).2 (hk y (List.mem_cons_of_mem _ hy))
    rw [List.length_erase_of_mem hx] at ih
    have := List.length_pos_of_mem hx
    simp only [List.length_cons]
    omega
theorem Chain.low (h : Inv s) {k : Int} {l : List Int} (hc : Chain s k l) : (∀ x ∈ l, x ≤ k ∧ x ∈ s.parent.map (·.1)) ∧ l.Nodup := by
  have mem : ∀ {k u : Int}, look s.parent k = some u → k ∈ s.parent.map (·.1) := fun {k u} hk => List.mem_map.2 ⟨(k, u), mem_of_look hk, rfl⟩
  induction hc with
  | here hk => exact ⟨fun x hx => by rw [List.mem_singleton.1 hx]; exact ⟨Int.le_refl _, mem hk⟩, by simp⟩
  | up hk hu _ ih =>
    have hlt : _ := (h.pa _ _ hk).2
    refine ⟨fun x hx => ?_, ?_⟩
    · rcases List.mem_cons.1 hx with rfl | hx
      · exact ⟨Int.le_refl _, mem hk⟩
      · have := ih.1 x hx
        exact ⟨by omega, this.2⟩
    · refine List.nodup_cons.2 ⟨fun hm => ?_, ih.2⟩
      have := (ih.1 _ hm).1
      omega
theorem Chain.len (h : Inv s) {k : Int} {l : List Int} (hc : Chain s k l) : l.length ≤ s.parent.length := by
  obtain ⟨h1, h2⟩ := hc.low h
  have := nodup_len l _ h2 fun x hx => (h1 x hx).2
  simpa using this
end
end Go.Proofs.Ytpeokpnjnmgloaa

/- Trace: the walk. -/
namespace Go.Proofs.Ytpeokpnjnmgloaa
open Go Go.RowKit
theorem Own.one_ {w : World} {base g : Nat} {e : TypeId} {x : Int} (h : Blk w g e #[.int .i64 x]) (hg : base ≤ g) : Own w base e 1 intEnc (.slice (some ⟨g, 0, none⟩) 1 1) [x] :=
  ⟨by simp [intEnc], .inr ⟨g, 1, #[.int .i64 x], rfl, hg, h, Nat.le_refl _, by unfold maxLen; omega, by simp, by simp [intEnc]⟩⟩
theorem Chain.next {s : SS} {k : Int} {l : List Int} (h : Chain s k l) : ∃ u r, look s.parent k = some u ∧ l = k :: r ∧ ((u = 0 ∧ r = []) ∨ (u ≠ 0 ∧ Chain s u r)) := by
  cases h with
  | here hk => exact ⟨0, [], hk, rfl, .inl ⟨rfl, rfl⟩⟩
  | up hk hu hc => exact ⟨_, _, hk, rfl, .inr ⟨hu, hc⟩⟩
set_option maxRecDepth 100000 in
set_option maxHeartbeats 2000000 in
theorem trace_any (p : Fp) (s : SS) (id : Int) (l : List Int) (w : World) (hX : StA w p s) (hI : Inv s) (hF : Few s) (hC : Chain s id l) :
    Calls Try.prog 39 #[.pointer (some ⟨p.g, 0, none⟩), .int .i64 id] w fun e w' => ∃ A c, e = .returned (.tuple #[.slice A l.length c, .int .i64 0]) ∧ Slc intEnc 1 w' w'.heap.size A l ∧ Below w.heap.size w w' := by
  have HI := hide hI
  have HX := hide hX
  have HLL := hide (Nat.le_trans (hC.len hI) hF.pa)
  obtain ⟨u, r, hu, hl, hc⟩ := hC.next
  have HL := hide hl
  have HC := hide hc
  have HU := hide (hI.pa _ _ hu).2
  have lk := hX.parent.look_yes (P := Try.prog) (t := 33) Try.underlying33 Try.underlying3 (look_kv_some hu) true
  have c5 := hX.blk.cell_ 5 (v := .bool true) rfl
  have c8 := hX.blk.cell_ 8 (v := .map (some p.rq)) rfl
  clear hI hX hF hu hl hc hC
  go_enter Try.func39, Try.ntmps39
  go_wp2_with fail
  refine (none_any p.g _ c5).mono ?_
  rintro e W' ⟨rfl, rfl⟩
  clear c5
  go_upto_region 7 with fail
  clear lk c8
  have hO := Own.one_ (base := w.heap.size) (Blk.new w 3 #[.int .i64 id]) (Nat.le_refl _)
  have hB := (Below.refl w.heap.size w).alloc (Nat.le_refl _) (.cells #[.int .i64 id] 3)
  generalize w.alloc (.cells #[.int .i64 id] 3) = W at *
  go_loopw [6, 8] (fun z v wr => ∃ (up : Int) (out rest : List Int), z = .int .i64 up ∧ Own wr w.heap.size 3 1 intEnc v out ∧ Hid (out ++ rest = l) ∧ Hid ((up = 0 ∧ rest = []) ∨ (up ≠ 0 ∧ Chain s up rest)) ∧ Hid (0 ≤ up) ∧ Below w.heap.size w wr) (fun z _ _ => (intOf z).toNat)
  case atStart => exact ⟨u, [id], r, rfl, hO, (by show _ = _; rw [HL.out]; rfl : Hid _), HC, (by show _ ≤ _; rcases HU.out with h | h <;> omega : Hid _), hB⟩
  case round =>
    clear hO hB HC HU
    obtain ⟨W, rfl⟩ : ∃ X : World, X = wr := ⟨_, rfl⟩
    obtain ⟨up, out, rest, rfl, hO, HO, HC, H0, hB⟩ := hrel
    by_cases hz : up = 0
    · have HR : Hid (out = l) := by
        show out = l
        rcases HC.out with ⟨_, h⟩ | ⟨h, _⟩
        · rw [← HO.out, h, List.append_nil]
        · exact absurd hz h
      have hzn : (up != 0) = false := by simp [hz]
      obtain ⟨A, c, rfl, hsl⟩ := hO.form (fun _ => rfl)
      clear hO
      go_wp2_with fail
      go_ret2
      exact ⟨A, c, by rw [← HR.out]; rfl, by rw [← HR.out]; exact hsl, hB⟩
    · have hzn : (up != 0) = true := by simp [hz]
      obtain ⟨u2, r2, hu2, hl2, hc2⟩ : ∃ u r, look s.parent up = some u ∧ rest = up :: r ∧ ((u = 0 ∧ r = []) ∨ (u ≠ 0 ∧ Chain s u r)) := by
        rcases HC.out with ⟨h, _⟩ | ⟨_, h⟩
        · exact absurd h hz
        · exact h.next
      have HP := hide (HI.out.pa _ _ hu2)
      have HO2 : Hid (out ++ [up] ++ r2 = l) := by show _ = _; rw [List.append_assoc, List.singleton_append, ← hl2]; exact HO.out
      have HC2 := hide hc2
      have hll : out.length ≤ 1000000 := by
        have h1 := congrArg List.length HO.out
        rw [List.length_append] at h1
        have := HLL.out
        omega
      have HKU := hide hu2
      clear hu2 hl2 hc2
      have hsz := hB.size
      go_upto_region 9 with (at_builtin; refine wpList_app_own (base := w.heap.size) (f := intEnc) (ys := [up]) _ _ rfl rfl et_ints (hO.alloc _) rfl rfl ((Blk.new W 3 #[.int .i64 up]).slc1 rfl) rfl (fun _ => rfl) intEnc_one (by simp <;> omega) (by simp <;> omega) ?_; intro v6 W6 hO6 hb6 hg6)
      have hal := (Below.refl W.heap.size W).alloc (Nat.le_refl _) (.cells #[.int .i64 up] 3)
      replace hB := (hB.trans (hal.mono hB.size)).trans hb6
      clear hO hal hb6 hg6 hsz
      have hX6 := HX.out.below hB
      have lk := hX6.parent.look_yes (P := Try.prog) (t := 33) Try.underlying33 Try.underlying3 (look_kv_some HKU.out) false
      have c8 := hX6.blk.cell_ 8 (v := .map (some p.rq)) rfl
      clear hX6
      go_wp2_with fail
      clear lk c8
      go_roundw
      case rel => exact ⟨u2, out ++ [up], r2, rfl, hO6, HO2, HC2, (by show _ ≤ _; rcases HP.out.2 with h | h <;> omega : Hid _), hB⟩
      case measure =>
        have h1 := HP.out
        have h2 := H0.out
        simp [intOf]; omega
theorem trace_none (p : Fp) (s : SS) (id : Int) (w : World) (hX : StA w p s) (hn : look s.parent id = none) :
    Calls Try.prog 39 #[.pointer (some ⟨p.g, 0, none⟩), .int .i64 id] w fun e w' => e = .returned (.tuple #[.slice none 0 0, .int .i64 5]) ∧ w = w' := by
  have lk := hX.parent.look_no (P := Try.prog) (t := 33) (z := .int .i64 0) Try.underlying33 Try.underlying3 (fun w => by kernel_rfl) (look_kv_none hn) true
  have c5 := hX.blk.cell_ 5 (v := .bool true) rfl
  have c8 := hX.blk.cell_ 8 (v := .map (some p.rq)) rfl
  clear hX hn
  go_enter Try.func39, Try.ntmps39
  go_wp2_with fail
  refine (none_any p.g _ c5).mono ?_
  rintro e W' ⟨rfl, rfl⟩
  clear c5
  go_wp2_with fail
  go_ret2
  exact ⟨rfl, rfl⟩
end Go.Proofs.Ytpeokpnjnmgloaa

/- traced of the top's laws, where the pedigree is right: the walk. -/
namespace Go.Proofs.Ytpeokpnjnmgloaa
open Go Go.RowKit
theorem Large_is (A : Option Addr) (c : Nat) (xs : List CallV) (m : Int) (w : World) (hS : Slc CallV.enc 17 w w.heap.size A xs) (hlen : xs.length ≤ maxLen) {b : Bool} (h : largeB xs m = b) :
    Calls Try.prog 4 #[.slice A xs.length c, .int .i64 m] w fun e w' => e = .returned (.bool b) ∧ w = w' := by
  have C := large_is A c xs m w hS hlen h
  go_enter Try.func4, Try.ntmps4
  go_wp2_with fail
  refine C.mono ?_
  rintro e w' ⟨rfl, rfl⟩
  go_wp2_with fail
  go_ret
  exact ⟨rfl, rfl⟩
set_option maxRecDepth 100000 in
set_option maxHeartbeats 2000000 in
theorem traced_yes (p : Fp) (s : SS) (id root lot : Int) (R : List (Int × Int)) (rm : Nat) (w : World) (hX : StA w p s) (hI : Inv s) (hF : Few s) (hE : Ends s id root) (hR : look R root = some lot) (hM : MapOf w rm (R.map (kv (Value.int .i64)))) :
    Calls Try.prog 27 #[.pointer (some ⟨p.g, 0, none⟩), .int .i64 id, .int .i64 root, .int .i64 lot, .map (some rm)] w fun e w' => e = .returned (.bool true) ∧ Below w.heap.size w w' := by
  obtain ⟨l0, hC, hlast⟩ := hE.chain
  have HLEN := hide (Nat.le_trans (hC.len hI) hF.pa)
  have HX := hide hX
  have HI := hide hI
  have HF := hide hF
  have HC := hide hC
  have HM := hide hM
  have HR := hide hR
  obtain ⟨L, hL⟩ : ∃ L, id :: l0 = L := ⟨_, rfl⟩
  have hfirst : L[0]? = some id := by rw [← hL]; rfl
  rw [hL] at hlast HLEN HC
  have hpos : 0 < L.length := by rw [← hL]; simp
  rw [List.getLast?_eq_getElem?] at hlast
  clear hX hI hF hE hC hM hR hL
  go_enter Try.func27, Try.ntmps27
  go_wp2_with fail
  refine (trace_any p s id L w HX.out HI.out HF.out HC.out).mono ?_
  rintro e W ⟨A, c, rfl, hS, hB⟩
  obtain ⟨n0, b0, o0, h0, hA, hb0, d0⟩ := ints_at' hS (k := 0) hpos
  obtain ⟨n1, b1, o1, h1, hA1, _, d1⟩ := ints_at' hS (k := L.length - 1) (by omega)
  obtain rfl : id = n0 := by rw [hfirst] at h0; injection h0
  obtain rfl : root = n1 := by rw [hlast] at h1; injection h1
  obtain ⟨rfl, rfl⟩ : b0 = b1 ∧ o0 = o1 := by rw [hA] at hA1; injection hA1 with h2; injection h2 with h3 h4; exact ⟨h3, h4⟩
  obtain ⟨nl, hnl⟩ : ∃ nl, L.length = nl := ⟨_, rfl⟩
  have hl6 : nl ≤ 1000000 := by rw [← hnl]; exact HLEN.out
  rw [hnl] at hpos d1 ⊢
  have e1 : IntKind.i64.wrap ((nl : Int) - 1) = ((nl - 1 : Nat) : Int) := by rw [IntWalk.i64_in _ (by omega)]; omega
  have g0 : ¬ ((nl : Int) = 0) := by omega
  have g1 : (0 : Int) < (nl : Int) := by omega
  have g2 : ((nl - 1 : Nat) : Int) < (nl : Int) := by omega
  have lk := (HM.out.below hB HM.out.lt).look_yes (P := Try.prog) (t := 33) Try.underlying33 Try.underlying3 (look_kv_some HR.out) true
  simp only [Nat.add_zero] at d0
  clear hS h0 h1 hfirst hlast hA1 hnl
  subst hA
  obtain ⟨n2, hn2⟩ : ∃ n2, nl - 1 = n2 := ⟨_, rfl⟩
  rw [hn2] at d1 e1 g2
  clear hn2
  go_wp2_with fail
  go_ret
  exact ⟨rfl, hB⟩
end Go.Proofs.Ytpeokpnjnmgloaa

/- The areas of what a store shows, place by place: plain. -/
namespace Go.Proofs.Ytpeokpnjnmgloaa
def sumL {V : Type} (f : V → Int) (l : List V) : Int := (l.map f).sum
theorem sumL_snoc {V : Type} (f : V → Int) (l : List V) (x : V) : sumL f (l ++ [x]) = sumL f l + f x := by unfold sumL; rw [List.map_append, List.sum_append]; simp
theorem sumL_take {V : Type} (f : V → Int) {l : List V} {i : Nat} {x : V} (h : l[i]? = some x) : sumL f (l.take (i + 1)) = sumL f (l.take i) + f x := by rw [List.take_add_one, h, Option.toList_some, sumL_snoc]
theorem perm_sum {a b : List Int} (h : a.Perm b) : a.sum = b.sum := by
  induction h with
  | nil => rfl
  | cons x _ ih => simp [ih]
  | swap x y l => simp; omega
  | trans _ _ h1 h2 => exact h1.trans h2
theorem sumL_vals {V : Type} (f : V → Int) {M : List (Int × V)} (hn : NodupK M) : sumL f (valsS M) = sumM f M := by
  unfold sumL sumM
  have h := (vals_perm hn).map f
  rw [List.map_map] at h
  exact perm_sum h
theorem sumL_bd {V : Type} (f : V → Int) : ∀ (l : List V), (∀ x ∈ l, 0 ≤ f x ∧ f x ≤ 900000) → 0 ≤ sumL f l ∧ sumL f l ≤ 900000 * (l.length : Int)
  | [], _ => by unfold sumL; simp
  | x :: l, h => by
    have ih := sumL_bd f l fun y hy => h y (List.mem_cons_of_mem _ hy)
    have hx := h x (List.mem_cons_self ..)
    have e : sumL f (x :: l) = f x + sumL f l := by unfold sumL; simp
    rw [e]
    simp only [List.length_cons]
    push_cast
    omega
section
variable {s : SS}
theorem piecesL_len (h : Inv s) : (piecesL s).length = s.pieces.length := by unfold piecesL; exact vals_len h.kp
theorem itemsL_len (h : Inv s) : (itemsL s).length = s.items.length := by unfold itemsL; exact vals_len h.ki
theorem stock_list (h : Inv s) : sumL areaS (itemsL s) = stockF s := sumL_vals _ h.ki
theorem free_list (h : Inv s) : sumL pA (piecesL s) = freeF s := sumL_vals _ h.kp
theorem used_list (h : Inv s) : sumL pU (piecesL s) = usedF s := sumL_vals _ h.kp
theorem item_in (h : Inv s) {x : Sheet} (hx : x ∈ itemsL s) : look s.items x.id = some x := ((items_shows h).m x).1 hx
theorem piece_in (h : Inv s) {x : Piece} (hx : x ∈ piecesL s) : look s.pieces x.id = some x := ((pieces_shows h).m x).1 hx
theorem piece_parts (h : Inv s) {x : Piece} (hx : x ∈ piecesL s) : (0 ≤ pA x ∧ pA x ≤ 900000) ∧ (0 ≤ pU x ∧ pU x ≤ 900000) := by
  have := piece_area h (piece_in h hx)
  unfold pA pU
  split <;> omega
/-- what stands in order is greater than what stands before -/
theorem next_id {α : Type} {key : α → Int} {l : List α} (h : l.Pairwise fun a b => key a < key b) {i : Nat} {x y : α} (hx : l[i]? = some x) (hy : l[i + 1]? = some y) : key x < key y := by
  obtain ⟨h1, h2⟩ := List.getElem?_eq_some_iff.1 hx
  obtain ⟨h3, h4⟩ := List.getElem?_eq_some_iff.1 hy
  have := List.pairwise_iff_getElem.1 h i (i + 1) h1 h3 (by omega)
  rw [h2, h4] at this
  exact this
/-- what a script's call but Receive does -/
noncomputable def calF (s : SS) (x : CallV) : SS := if kd x = 0 then s else doF s x []
theorem cal_inv (h : Inv s) (x : CallV) : Inv (calF s x) := by
  unfold calF
  split
  · exact h
  · exact (do_inv h x []).1
theorem cal_room {r : Nat} (h : Room s (r + 50)) (x : CallV) : Room (calF s x) r := by
  unfold calF
  split
  · exact h.less (by omega)
  · exact do_room h x []
theorem cal_ped {R : List (Int × Int)} (h : Inv s) (hP : Ped R s) (x : CallV) : Ped R (calF s x) := by
  unfold calF doF
  by_cases h0 : kd x = 0
  · rw [if_pos h0]; exact hP
  · rw [if_neg h0, if_neg h0]
    repeat' split
    · exact ped_take h hP _ _
    · exact ped_take h hP _ _
    · exact ped_use hP _ _
    · exact ped_back hP _
    · exact ped_scrap hP _
    · exact ped_expire h hP _
    · exact ped_recall h hP _
    · exact hP
end
end Go.Proofs.Ytpeokpnjnmgloaa

/- What a call but Receive leaves of what was received: plain. -/
namespace Go.Proofs.Ytpeokpnjnmgloaa
section
variable {s t : SS}
theorem add_re (s : SS) (x : Sheet) (u m : Int) : (addF s x u m).received = s.received := by unfold addF; split <;> rfl
theorem rest_re (s : SS) (x : Sheet) : (restF s x).received = s.received := by unfold restF; split <;> rfl
theorem cut_re (s : SS) (n : Need) (lot : Int) (b : Sheet) (q : Int) : (cutD (cutC s n b q) n lot b).received = s.received := by
  have h1 : (cutA s b q).received = s.received := add_re _ _ _ _
  have h2 : (cutB s n b q).received = (cutA s b q).received := add_re _ _ _ _
  have h3 : (cutC s n b q).received = (cutB s n b q).received := rest_re _ _
  exact h3.trans (h2.trans h1)
theorem one_re {n : Need} {lot day : Int} {p : Piece} (h : cutOneF s n lot day = some (t, p)) : t.received = s.received := by
  unfold cutOneF at h
  cases hb : chosen s n lot day with
  | none => rw [hb] at h; cases h
  | some b =>
    rw [hb] at h
    injection h with h
    injection h with h1 h2
    rw [← h1]; exact cut_re _ _ _ _ _
theorem all_re {n : Need} {lot day : Int} : ∀ {k : Nat} {s t : SS} {l : List Piece}, cutAllF n lot day k s = some (t, l) → t.received = s.received
  | 0, s, t, l, h => by
    injection h with h
    injection h with h1 h2
    rw [← h1]
  | k + 1, s, t, l, h => by
    unfold cutAllF at h
    cases h1 : cutAllF n lot day k s with
    | none => rw [h1] at h; cases h
    | some q =>
      obtain ⟨s1, l1⟩ := q
      rw [h1] at h
      dsimp only at h
      cases h2 : cutOneF s1 n lot day with
      | none => rw [h2] at h; cases h
      | some q2 =>
        obtain ⟨s2, p2⟩ := q2
        rw [h2] at h
        injection h with h
        injection h with h3 h4
        rw [← h3]
        exact (one_re h2).trans (all_re h1)
theorem take_re (s : SS) (n : Need) (day : Int) : (takeS s n day).received = s.received := by
  unfold takeS
  split
  · cases hq : takeF s n day with
    | none => rfl
    | some q =>
      obtain ⟨lot, _, hc⟩ := takeFrom_some hq
      exact all_re (l := q.2) (by rw [hc])
  · rfl
theorem use_re (s : SS) (a b : Int) : (useS s a b).received = s.received := by
  unfold useS
  split
  · unfold useFn; split <;> rfl
  · rfl
theorem back_re (s : SS) (a : Int) : (backS s a).received = s.received := by
  unfold backS
  cases hq : look s.pieces a with
  | none => rfl
  | some q =>
    dsimp only
    split
    · unfold backFn; split <;> rfl
    · rfl
theorem cal_re (h : Inv s) (x : CallV) : (calF s x).received = s.received := by
  unfold calF doF
  by_cases h0 : kd x = 0
  · rw [if_pos h0]
  · rw [if_neg h0, if_neg h0]
    repeat' split
    · exact take_re _ _ _
    · exact take_re _ _ _
    · exact use_re _ _ _
    · exact back_re _ _
    · exact (scrap_same s _).re
    · unfold expireS
      split
      · exact (exp_all h _).2.1.re
      · rfl
    · unfold recallS
      split
      · exact (rec_all h _).2.1.re
      · rfl
    · rfl
theorem new_sta {w : World} {B0 g ri rp rq rl : Nat} {r : Shelf} (h : StoreAt w B0 g ri rp rq rl ⟨r, [], [], [], [], 0, 0, 0⟩) : StA w ⟨g, ri, rp, rq, rl⟩ ⟨r, [], [], [], [], 0, 0, 0⟩ := by
  obtain ⟨MI, h1, h2, h3⟩ := h.items
  have h4 : MI = [] := List.length_eq_zero_iff.1 h2
  subst h4
  exact ⟨h.blk, ⟨[], h1, rfl, fun i p q hp => by simp at hp⟩, h.pieces, h.parent, h.lots, h.ne⟩
end
end Go.Proofs.Ytpeokpnjnmgloaa
