/- Parts of the proofs of this seat: RfP, RfB, RfRd, RfMk, RfMk2, RfMk3, RfMk4, RfOff, RfOp1, RfOp2, RfExpP, RfCh, RfRow, RfTr. Each part says what it proves; no condition beyond those stated there. -/
import Derived.Deep.DeepCutAuto
import Derived.Deep.CutBlock
import Derived.Test.YtehlbomkldnalaaGreatQ8
import Derived.Test.YtehlbomkldnalaaGreatQ10
import Derived.Test.YtehlbomkldnalaaGreatQ12
import Derived.Test.YtehlbomkldnalaaGreatQ14
import Derived.Test.YtehlbomkldnalaaGreatQ17
import Derived.Test.YtehlbomkldnalaaGreatQ21
import Derived.Test.YtehlbomkldnalaaGreatQ23

/- The reference's small functions and what a store of it has to do with a store of the program: plain. -/
namespace Go.Proofs.YtehlbomkldnalaaGreat
open Go Go.RowKit
def maxL (l : List (Int × Int)) : Int := l.foldl (fun n p => imax n p.1) 0
theorem maxL_snoc (l : List (Int × Int)) (p : Int × Int) : maxL (l ++ [p]) = imax (maxL l) p.1 := by unfold maxL; rw [List.foldl_append]; rfl
theorem maxL_take {l : List (Int × Int)} {i : Nat} {p : Int × Int} (h : l[i]? = some p) : maxL (l.take (i + 1)) = imax (maxL (l.take i)) p.1 := by rw [List.take_add_one, h, Option.toList_some, maxL_snoc]
def RS.linked (r : RS) (id u : Int) : RS := { r with links := r.links ++ [(id, u)] }
def RS.next (r : RS) : Int := maxL r.links + 1
def RS.withI (r : RS) (x : Sheet) : RS := { r with items := insG (fun y => decide (x.id < y.id)) x r.items }
def RS.without (r : RS) (id : Int) : RS := { r with items := r.items.filter fun y => !decide (y.id = id) }
def RS.dropped (r : RS) (id : Int) : RS := { r with pieces := r.pieces.filter fun y => !decide (y.id = id) }
def RS.lotR (r : RS) (lot : Int) : Option RH := r.rolls.find? fun h => decide (h.lo = lot)
def RS.itemR (r : RS) (id : Int) : Option Sheet := r.items.find? fun x => decide (x.id = id)
def RS.pieceR (r : RS) (id : Int) : Option Piece := r.pieces.find? fun x => decide (x.id = id)
def RS.offcut (r : RS) (x : Sheet) (w l : Int) (fs : List Pt) : RS := (r.withI { x with id := r.next, width := w, length := l, faults := fs }).linked r.next x.id
def frontR (fs : List Pt) (p : Int) : List Pt := fs.filter fun f => decide (f.b ≤ p)
def behindR (fs : List Pt) (p : Int) : List Pt := (fs.filter fun f => decide (p ≤ f.a)).map fun f => ⟨f.a - p, f.b - p⟩
noncomputable def candR (r : Shelf) (n : Need) (lot day : Int) (x : Sheet) : Bool := decide (x.lot = lot) && (decide (x.grade = n.grade) && (decide (x.colour = n.colour) && (decide (x.made ≤ day) && (!oldF r x day && (decide (n.width ≤ x.width) && (clear x.length x.faults n.length).isSome)))))
noncomputable def pickS (r : Shelf) (n : Need) (lot day : Int) (o : Option Sheet) (x : Sheet) : Option Sheet :=
 if candR r n lot day x then match o with
  | none => some x
  | some b => if lessS x b then some x else some b
 else o
noncomputable def pickL (r : Shelf) (n : Need) (lot day : Int) (l : List Sheet) : Option Sheet := l.foldl (pickS r n lot day) none
theorem pickL_snoc (r : Shelf) (n : Need) (lot day : Int) (l : List Sheet) (x : Sheet) : pickL r n lot day (l ++ [x]) = pickS r n lot day (pickL r n lot day l) x := by unfold pickL; rw [List.foldl_append]; rfl
theorem pickL_take {r : Shelf} {n : Need} {lot day : Int} {l : List Sheet} {i : Nat} {x : Sheet} (h : l[i]? = some x) : pickL r n lot day (l.take (i + 1)) = pickS r n lot day (pickL r n lot day (l.take i)) x := by rw [List.take_add_one, h, Option.toList_some, pickL_snoc]
def PickOk (r : Shelf) (n : Need) (lot day : Int) (l : List Sheet) : Option Sheet → Prop
 | none => ∀ q ∈ l, candR r n lot day q = false
 | some b => b ∈ l ∧ candR r n lot day b = true ∧ ∀ q ∈ l, candR r n lot day q = true → lessS q b = false
theorem pick_step (r : Shelf) (n : Need) (lot day : Int) (l : List Sheet) (o : Option Sheet) (x : Sheet) (ih : PickOk r n lot day l o) : PickOk r n lot day (l ++ [x]) (pickS r n lot day o x) := by
 unfold pickS
 cases hc : candR r n lot day x with
 | false =>
  rw [if_neg (by decide)]
  cases o with
  | none =>
   intro q hq
   rcases List.mem_append.1 hq with hq | hq
   ·exact ih q hq
   ·rw [List.mem_singleton.1 hq]; exact hc
  | some b =>
   refine ⟨List.mem_append_left _ ih.1, ih.2.1, fun q hq hqc => ?_⟩
   rcases List.mem_append.1 hq with hq | hq
   ·exact ih.2.2 q hq hqc
   ·rw [List.mem_singleton.1 hq, hc] at hqc; cases hqc
 | true =>
  rw [if_pos rfl]
  have hxx : lessS x x = false := by unfold lessS; simp
  cases o with
  | none =>
   refine ⟨List.mem_append_right _ (List.mem_singleton.2 rfl), hc, fun q hq hqc => ?_⟩
   rcases List.mem_append.1 hq with hq | hq
   ·rw [ih q hq] at hqc; cases hqc
   ·rw [List.mem_singleton.1 hq]; exact hxx
  | some b =>
   dsimp only
   cases hl : lessS x b with
   | true =>
    rw [if_pos rfl]
    have hbx : lessS b x = false := by
     unfold lessS at hl ⊢
     simp only [Bool.or_eq_true, Bool.and_eq_true, decide_eq_true_eq, Bool.or_eq_false_iff, Bool.and_eq_false_iff, decide_eq_false_iff_not] at hl ⊢
     omega
    refine ⟨List.mem_append_right _ (List.mem_singleton.2 rfl), hc, fun q hq hqc => ?_⟩
    rcases List.mem_append.1 hq with hq | hq
    ·exact less_trans hbx (ih.2.2 q hq hqc)
    ·rw [List.mem_singleton.1 hq]; exact hxx
   | false =>
    rw [if_neg (by decide)]
    refine ⟨List.mem_append_left _ ih.1, ih.2.1, fun q hq hqc => ?_⟩
    rcases List.mem_append.1 hq with hq | hq
    ·exact ih.2.2 q hq hqc
    ·rw [List.mem_singleton.1 hq]; exact hl
theorem pick_fold (r : Shelf) (n : Need) (lot day : Int) : ∀ (l L : List Sheet) (o : Option Sheet), PickOk r n lot day L o → PickOk r n lot day (L ++ l) (l.foldl (pickS r n lot day) o)
 | [], L, o, h => by rw [List.append_nil]; exact h
 | x :: l, L, o, h => by
  have := pick_fold r n lot day l (L ++ [x]) _ (pick_step r n lot day L o x h)
  rw [List.append_assoc] at this
  exact this
theorem pickL_ok (r : Shelf) (n : Need) (lot day : Int) (l : List Sheet) : PickOk r n lot day l (pickL r n lot day l) := pick_fold r n lot day l [] none fun q hq => (by cases hq)
section
variable {V : Type} {key : V → Int} {l : List V} {M : List (Int × V)}
theorem Shows.put_new (h : Shows key l M) {x : V} (hk : look M (key x) = none) : Shows key (insG (fun y => decide (key x < key y)) x l) (put M (key x) x) := by
 have hne : ∀ y ∈ l, key y ≠ key x := fun y hy e => by have := (h.m y).1 hy; rw [e, hk] at this; cases this
 refine ⟨insG_sorted (fun y => rfl) h.s hne, fun y => ?_⟩
 rw [insG_mem, look_put]
 split
 ·rename_i e
  constructor
  ·rintro (rfl | hy)
   ·rfl
   ·exact absurd e (hne y hy)
  ·intro he; injection he with he; exact .inl he.symm
 ·rename_i e
  rw [← h.m]
  constructor
  ·rintro (rfl | hy)
   ·exact absurd rfl e
   ·exact hy
  ·exact .inr
theorem Shows.snoc (h : Shows key l M) {x : V} (hk : ∀ y ∈ l, key y < key x) : Shows key (l ++ [x]) (put M (key x) x) := by
 have hn : look M (key x) = none ∨ True := .inr trivial
 refine ⟨?_, fun y => ?_⟩
 ·rw [List.pairwise_append]
  exact ⟨h.s, by simp, fun a ha b hb => by rw [List.mem_singleton.1 hb]; exact hk a ha⟩
 ·rw [List.mem_append, List.mem_singleton, look_put]
  split
  ·rename_i e
   constructor
   ·rintro (hy | rfl)
    ·have := hk y hy; omega
    ·rfl
   ·intro he; injection he with he; exact .inr he.symm
  ·rename_i e
   rw [← h.m]
   constructor
   ·rintro (hy | rfl)
    ·exact hy
    ·exact absurd rfl e
   ·exact .inl
theorem Shows.del_ (h : Shows key l M) (k : Int) : Shows key (l.filter fun y => !decide (key y = k)) (del M k) := by
 refine ⟨h.s.filter _, fun y => ?_⟩
 rw [List.mem_filter, h.m, look_del]
 by_cases e : key y = k
 ·rw [if_pos e]; simp [e]
 ·rw [if_neg e]; simp [e]
theorem Shows.upd (h : Shows key l M) {k : Int} {p : V} (hp : look M k = some p) (hk : ∀ x, look M k = some x → key x = k) (f : V → V) (hf : ∀ x, key (f x) = key x) : Shows key (l.map fun y => if key y = k then f y else y) (put M k (f p)) := by
 have hkey : ∀ y, key (if key y = k then f y else y) = key y := fun y => by split <;> simp [hf]
 have hpk := hk p hp
 refine ⟨?_, fun y => ?_⟩
 ·rw [List.pairwise_map]
  exact h.s.imp fun {a b} hab => by rw [hkey, hkey]; exact hab
 ·rw [List.mem_map, look_put]
  split
  ·rename_i e
   constructor
   ·rintro ⟨z, hz, rfl⟩
    rw [hkey] at e
    have h1 := (h.m z).1 hz
    rw [e, hp] at h1
    injection h1 with h1
    rw [if_pos e, h1]
   ·intro he
    injection he with he
    exact ⟨p, (h.m p).2 (by rw [hpk]; exact hp), by rw [if_pos hpk, he]⟩
  ·rename_i e
   constructor
   ·rintro ⟨z, hz, rfl⟩
    rw [hkey] at e
    rw [if_neg e]; exact (h.m z).1 hz
   ·intro he
    exact ⟨y, (h.m y).2 he, if_neg e⟩
theorem Shows.find (h : Shows key l M) (hk : ∀ k x, look M k = some x → key x = k) (k : Int) : l.find? (fun y => decide (key y = k)) = look M k := by
 cases hf : l.find? (fun y => decide (key y = k)) with
 | some y =>
  have h1 := List.find?_some hf
  have h2 := List.mem_of_find?_eq_some hf
  rw [decide_eq_true_eq] at h1
  rw [← h1]; exact ((h.m y).1 h2).symm
 | none =>
  rw [List.find?_eq_none] at hf
  cases hl : look M k with
  | none => rfl
  | some x =>
   have h1 := hk k x hl
   exact absurd (decide_eq_true h1) (by simpa using hf x ((h.m x).2 (by rw [h1]; exact hl)))
end
/-- the reference's store tells the same as the program's -/
structure Rel (r : RS) (s : SS) : Prop where
 ru : r.rules = s.rules
 it : Shows Sheet.id r.items s.items
 pc : Shows Piece.id r.pieces s.pieces
 lk : ∀ k, look r.links k = look s.parent k
 la : maxL r.links = s.last
 lo : ∀ k, ((r.lotR k).map fun h => (⟨h.gr, h.co, h.ma⟩ : Kin)) = look s.lots k
 re : (r.rolls.map fun h => h.wi * h.le).sum = s.received
 nd : (r.rolls.map (·.id)).Nodup
 il : ∀ h ∈ r.rolls, (look s.parent h.id).isSome = true
 bd : ∀ h ∈ r.rolls, (1 ≤ h.wi ∧ h.wi ≤ 150) ∧ (1 ≤ h.le ∧ h.le ≤ 6000)
 ll : r.links.length = s.parent.length
 rl : r.rolls.length ≤ s.parent.length
theorem rel_new (ru : Shelf) : Rel ⟨ru, [], [], [], []⟩ ⟨ru, [], [], [], [], 0, 0, 0⟩ :=
 ⟨rfl, ⟨List.Pairwise.nil, fun x => ⟨fun h => (by cases h), fun h => (by cases h)⟩⟩, ⟨List.Pairwise.nil, fun x => ⟨fun h => (by cases h), fun h => (by cases h)⟩⟩, fun _ => rfl, rfl, fun _ => rfl, rfl, List.nodup_nil, fun h hh => (by cases hh), fun h hh => (by cases hh), rfl, Nat.le_refl _⟩
section
variable {r : RS} {s s' : SS} {n : Need} {lot day : Int}
theorem Rel.items (h : Rel r s) (hi : Inv s) : r.items = itemsL s := h.it.eq (items_shows hi)
theorem Rel.pieces (h : Rel r s) (hi : Inv s) : r.pieces = piecesL s := h.pc.eq (pieces_shows hi)
theorem Rel.ilen (h : Rel r s) (hi : Inv s) : r.items.length = s.items.length := by rw [h.items hi]; exact vals_len hi.ki
theorem Rel.plen (h : Rel r s) (hi : Inv s) : r.pieces.length = s.pieces.length := by rw [h.pieces hi]; exact vals_len hi.kp
/-- nothing has a number above the last -/
structure LowS (s : SS) : Prop where
 it : ∀ k x, look s.items k = some x → k ≤ s.last
 pc : ∀ k x, look s.pieces k = some x → k ≤ s.last
 pa : ∀ k x, look s.parent k = some x → k ≤ s.last
theorem InvD.lows {d : Int} (h : InvD d s) : LowS s := ⟨fun k x hk => by have h1 := h.it k x hk; have := h1.2.id.2; omega, fun k x hk => by have h1 := h.pc k x hk; have := h1.2.id.2; omega, fun k x hk => (h.pa k x hk).1.2⟩
theorem LowS.del_item (h : LowS s) (k : Int) : LowS { s with items := del s.items k } := ⟨fun j x hj => by
 have hj' : look (del s.items k) j = some x := hj
 rw [look_del] at hj'
 split at hj'
 ·cases hj'
 ·exact h.it j x hj', h.pc, h.pa⟩
theorem LowS.put_item (h : LowS s) {k : Int} (x : Sheet) (hk : k ≤ s.last) : LowS { s with items := put s.items k x } := ⟨fun j y hj => by
 have hj' : look (put s.items k x) j = some y := hj
 rw [look_put] at hj'
 split at hj'
 ·rename_i e
  show j ≤ s.last
  omega
 ·exact h.it j y hj', h.pc, h.pa⟩
theorem LowS.next (h : LowS s) (u : Int) : LowS { s with last := s.last + 1, parent := put s.parent (s.last + 1) u } := ⟨fun j x hj => by have := h.it j x hj; show j ≤ s.last + 1; omega, fun j x hj => by have := h.pc j x hj; show j ≤ s.last + 1; omega, fun j x hj => by
 have hj' : look (put s.parent (s.last + 1) u) j = some x := hj
 show j ≤ s.last + 1
 rw [look_put] at hj'
 split at hj'
 ·omega
 ·have := h.pa j x hj'; omega⟩
theorem LowS.no (h : LowS s) : look s.items (s.last + 1) = none ∧ look s.pieces (s.last + 1) = none ∧ look s.parent (s.last + 1) = none := by
 refine ⟨?_, ?_, ?_⟩
 ·cases e : look s.items (s.last + 1) with
  | none => rfl
  | some x => have := h.it _ _ e; omega
 ·cases e : look s.pieces (s.last + 1) with
  | none => rfl
  | some x => have := h.pc _ _ e; omega
 ·cases e : look s.parent (s.last + 1) with
  | none => rfl
  | some x => have := h.pa _ _ e; omega
theorem LowS.waste (h : LowS s) (a : Int) : LowS { s with waste := a } := ⟨h.it, h.pc, h.pa⟩
theorem Rel.waste (h : Rel r s) (a : Int) : Rel r { s with waste := a } := ⟨h.ru, h.it, h.pc, h.lk, h.la, h.lo, h.re, h.nd, h.il, h.bd, h.ll, h.rl⟩
theorem Rel.without (h : Rel r s) (k : Int) : Rel (r.without k) { s with items := del s.items k } := ⟨h.ru, h.it.del_ k, h.pc, h.lk, h.la, h.lo, h.re, h.nd, h.il, h.bd, h.ll, h.rl⟩
theorem Rel.dropped (h : Rel r s) (k : Int) : Rel (r.dropped k) { s with pieces := del s.pieces k } := ⟨h.ru, h.it, h.pc.del_ k, h.lk, h.la, h.lo, h.re, h.nd, h.il, h.bd, h.ll, h.rl⟩
theorem Rel.withI (h : Rel r s) {x : Sheet} (hx : look s.items x.id = none) : Rel (r.withI x) { s with items := put s.items x.id x } := ⟨h.ru, h.it.put_new hx, h.pc, h.lk, h.la, h.lo, h.re, h.nd, h.il, h.bd, h.ll, h.rl⟩
theorem Rel.links_ (h : Rel r s) {k u : Int} (hk : look s.parent k = none) (j : Int) : look (r.links ++ [(k, u)]) j = look (put s.parent k u) j := by
 rw [look_append, h.lk j, look_put]
 have e0 : look [(k, u)] j = if k = j then some u else none := by rw [look_cons]; rfl
 rw [e0]
 by_cases e : j = k
 ·rw [if_pos e, if_pos e.symm, e, hk]; rfl
 ·rw [if_neg e, if_neg (fun h => e h.symm)]; cases look s.parent j <;> rfl
theorem Rel.next (h : Rel r s) (u : Int) (hL : LowS s) : Rel (r.linked r.next u) { s with last := s.last + 1, parent := put s.parent (s.last + 1) u } := by
 have hn : r.next = s.last + 1 := by unfold RS.next; rw [h.la]
 obtain ⟨h1, h2, h3⟩ := hL.no
 refine ⟨h.ru, h.it, h.pc, fun j => ?_, ?_, h.lo, h.re, h.nd, fun g hg => ?_, h.bd, ?_, ?_⟩
 ·rw [hn]; exact h.links_ h3 j
 ·show maxL (r.links ++ [(r.next, u)]) = s.last + 1
  rw [maxL_snoc, hn, h.la]
  unfold imax; dsimp only; split <;> omega
 ·show (look (put s.parent (s.last + 1) u) g.id).isSome = true
  rw [look_put]
  split
  ·rfl
  ·exact h.il g hg
 ·show (r.links ++ [(r.next, u)]).length = (put s.parent (s.last + 1) u).length
  rw [put_new h3, List.length_append, List.length_append, h.ll]; rfl
 ·show r.rolls.length ≤ (put s.parent (s.last + 1) u).length
  rw [put_new h3, List.length_append]
  have := h.rl; omega
theorem Rel.offcut (h : Rel r s) (hL : LowS s) (b : Sheet) (w l : Int) (fs : List Pt) :
  Rel (r.offcut b w l fs) { s with last := s.last + 1, parent := put s.parent (s.last + 1) b.id, items := put s.items (s.last + 1) { b with id := s.last + 1, width := w, length := l, faults := fs } } := by
 have hn : r.next = s.last + 1 := by unfold RS.next; rw [h.la]
 have h1 := h.next b.id hL
 have h2 := h1.withI (x := { b with id := s.last + 1, width := w, length := l, faults := fs }) hL.no.1
 unfold RS.offcut
 rw [hn]
 rw [hn] at h2
 exact h2
theorem rel_add (h : Rel r s) (hL : LowS s) (b : Sheet) (w l mw : Int) (fs : List Pt) {c : Prop} [Decidable c] (hc : c ↔ ¬ (w < mw ∨ l < s.rules.minLength)) :
  Rel (if c then r.offcut b w l fs else r) (addF s { b with width := w, length := l, faults := fs } b.id mw) ∧ LowS (addF s { b with width := w, length := l, faults := fs } b.id mw) := by
 unfold addF
 by_cases hcc : c
 ·rw [if_pos hcc, if_neg (hc.1 hcc)]
  exact ⟨h.offcut hL b w l fs, (hL.next b.id).put_item _ (Int.le_refl _)⟩
 ·have : w < mw ∨ l < s.rules.minLength := Classical.byContradiction fun hh => hcc (hc.2 hh)
  rw [if_neg hcc, if_pos this]
  exact ⟨h.waste _, hL.waste _⟩
/-- the steps of a cut -/
def RS.cA (r : RS) (b : Sheet) (p : Int) : RS := if r.rules.minLength ≤ p then (r.without b.id).offcut b b.width p (frontR b.faults p) else r.without b.id
def RS.cB (r : RS) (n : Need) (b : Sheet) : RS := if r.rules.minWidth ≤ b.width - n.width ∧ r.rules.minLength ≤ n.length then r.offcut b (b.width - n.width) n.length [] else r
def RS.pc1 (r : RS) (n : Need) (b : Sheet) : Piece := ⟨r.next, b.root, b.lot, b.grade, b.colour, n.width, n.length, 0⟩
def RS.cP (r : RS) (n : Need) (b : Sheet) : RS := { r.linked r.next b.id with pieces := r.pieces ++ [r.pc1 n b] }
def restS (n : Need) (b : Sheet) (p : Int) : Sheet := { b with length := b.length - (p + n.length), faults := behindR b.faults (p + n.length) }
def RS.cR (r : RS) (n : Need) (b : Sheet) (p : Int) : RS := if r.rules.minLength ≤ b.length - (p + n.length) then r.withI (restS n b p) else r
def RS.cut1 (r : RS) (n : Need) (b : Sheet) (p : Int) : RS := (((r.cA b p).cB n b).cP n b).cR n b p
theorem spans_mem {len : Int} : ∀ {fs : List Pt} {l : Int}, spansOk len l fs = true → ∀ f ∈ fs, l ≤ f.a ∧ f.a < f.b ∧ f.b ≤ len
 | [], _, _, f, hf => by cases hf
 | g :: fs, l, h, f, hf => by
  simp only [spansOk, Bool.and_eq_true, Bool.not_eq_true', Bool.or_eq_false_iff, decide_eq_false_iff_not] at h
  rcases List.mem_cons.1 hf with rfl | hf
  ·omega
  ·have := spans_mem h.2 f hf; omega
theorem part_front_eq {fs : List Pt} {len p nl : Int} (hs : spansOk len 0 fs = true) (hf : freeB fs p nl = true) (hn : 1 ≤ nl) (_hp : 0 ≤ p) : frontR fs p = partF fs 0 p := by
 have h1 := spans_mem hs
 have h2 : ∀ f ∈ fs, f.b ≤ p ∨ p + nl ≤ f.a := fun f hm => by
  obtain ⟨i, hi⟩ := List.getElem?_of_mem hm
  have := (freeB_iff _ _ _).1 hf i f hi
  have := h1 f hm
  unfold hits at *
  omega
 clear hs hf
 unfold frontR partF
 induction fs with
 | nil => rfl
 | cons f fs ih =>
  have ih' := ih (fun g hg => h1 g (List.mem_cons_of_mem _ hg)) (fun g hg => h2 g (List.mem_cons_of_mem _ hg))
  have a1 := h1 f (List.mem_cons_self ..)
  have a2 := h2 f (List.mem_cons_self ..)
  rw [List.map_cons, List.filter_cons, List.filter_cons, ih']
  by_cases hb : f.b ≤ p
  ·have e1 : partOf 0 p f = f := by
    obtain ⟨fa, fb⟩ := f
    unfold partOf imax imin
    dsimp only at a1 hb ⊢
    rw [if_neg (by omega), if_neg (by omega)]
    simp
   rw [if_pos (by simpa using hb), e1, if_pos (by simpa using a1.2.1)]
  ·have e1 : ¬ (partOf 0 p f).a < (partOf 0 p f).b := by
    unfold partOf imax imin
    dsimp only
    split <;> split <;> omega
   rw [if_neg (by simpa using hb), if_neg (by simpa using e1)]
theorem part_behind_eq {fs : List Pt} {len p nl : Int} (hs : spansOk len 0 fs = true) (hf : freeB fs p nl = true) (hn : 1 ≤ nl) (_hp : 0 ≤ p) : behindR fs (p + nl) = partF fs (p + nl) len := by
 have h1 := spans_mem hs
 have h2 : ∀ f ∈ fs, f.b ≤ p ∨ p + nl ≤ f.a := fun f hm => by
  obtain ⟨i, hi⟩ := List.getElem?_of_mem hm
  have := (freeB_iff _ _ _).1 hf i f hi
  have := h1 f hm
  unfold hits at *
  omega
 clear hs hf
 unfold behindR partF
 induction fs with
 | nil => rfl
 | cons f fs ih =>
  have ih' := ih (fun g hg => h1 g (List.mem_cons_of_mem _ hg)) (fun g hg => h2 g (List.mem_cons_of_mem _ hg))
  have a1 := h1 f (List.mem_cons_self ..)
  have a2 := h2 f (List.mem_cons_self ..)
  rw [List.map_cons, List.filter_cons, List.filter_cons]
  by_cases hb : p + nl ≤ f.a
  ·have e1 : partOf (p + nl) len f = ⟨f.a - (p + nl), f.b - (p + nl)⟩ := by
    unfold partOf imax imin
    rw [if_neg (by omega), if_neg (by omega)]
   rw [if_pos (by simpa using hb), List.map_cons, ih', e1, if_pos (by simp; omega)]
  ·have e1 : ¬ (partOf (p + nl) len f).a < (partOf (p + nl) len f).b := by
    unfold partOf imax imin
    dsimp only
    split <;> split <;> omega
   rw [if_neg (by simpa using hb), ih', if_neg (by simpa using e1)]
theorem rel_cut (h : Rel r s) (hi : Inv s) (hn : NeedOk n) {b : Sheet} (hb : look s.items b.id = some b) (hl : b.lot = lot) (_hw : n.width ≤ b.width) {p : Int} (hp : clear b.length b.faults n.length = some p) :
  Rel (r.cut1 n b p) (cutD (cutC s n b p) n lot b) ∧ ((r.cA b p).cB n b).pc1 n b = pieceF (cutC s n b p) n lot b := by
 have ho := (hi.it _ _ hb).2
 have hbd := clear_bd hp
 have g1 := ho.w
 have g2 := ho.l
 have g3 := hn.w
 have g4 := hn.l
 have hr := rules_pos hi.ru
 have hL := hi.lows
 have hfr := part_front_eq ho.f hbd.2.2.2 (by omega) hbd.2.1
 have hbh := part_behind_eq ho.f hbd.2.2.2 (by omega) hbd.2.1
 have r1 := h.without b.id
 have l1 := hL.del_item b.id
 have eA : r.cA b p = if s.rules.minLength ≤ p then (r.without b.id).offcut b b.width p (partF b.faults 0 p) else r.without b.id := by unfold RS.cA; rw [h.ru, hfr]
 obtain ⟨r2, l2⟩ := rel_add (c := s.rules.minLength ≤ p) r1 l1 b b.width p 1 (partF b.faults 0 p) (by show _ ↔ ¬ (b.width < 1 ∨ p < s.rules.minLength); omega)
 rw [← eA] at r2
 have r2' : Rel (r.cA b p) (cutA s b p) := r2
 have l2' : LowS (cutA s b p) := l2
 have er2 : (cutA s b p).rules = s.rules := add_rules _ _ _ _
 have eB : (r.cA b p).cB n b = if s.rules.minWidth ≤ b.width - n.width ∧ s.rules.minLength ≤ n.length then (r.cA b p).offcut b (b.width - n.width) n.length [] else r.cA b p := by unfold RS.cB; rw [r2'.ru, er2]
 obtain ⟨r3, l3⟩ := rel_add (c := s.rules.minWidth ≤ b.width - n.width ∧ s.rules.minLength ≤ n.length) r2' l2' b (b.width - n.width) n.length s.rules.minWidth [] (by rw [er2]; omega)
 rw [← eB] at r3
 have r3' : Rel ((r.cA b p).cB n b) (cutB s n b p) := r3
 have l3' : LowS (cutB s n b p) := l3
 have er3 : (cutB s n b p).rules = s.rules := (add_rules _ _ _ _).trans er2
 have la1 : b.id ≤ (cutA s b p).last := by have := hi.lows.it _ _ hb; unfold cutA addF; split <;> simp <;> omega
 have k1 : look (cutB s n b p).items b.id = none := by
  rw [show look (cutB s n b p).items b.id = look (cutA s b p).items b.id from (add_low la1).1]
  rw [show look (cutA s b p).items b.id = look (del s.items b.id) b.id from (add_low (s := { s with items := del s.items b.id }) ho.id.2).1]
  exact look_del_self _ _
 have elast : (cutC s n b p).last = (cutB s n b p).last := by unfold cutC restF; split <;> rfl
 have epc : ((r.cA b p).cB n b).pc1 n b = pieceF (cutC s n b p) n lot b := by
  have hne : ((r.cA b p).cB n b).next = (cutC s n b p).last + 1 := by rw [elast]; unfold RS.next; rw [r3'.la]
  unfold RS.pc1 pieceF
  rw [hne, hl]
 refine ⟨?_, epc⟩
 generalize hr3 : (r.cA b p).cB n b = ra at *
 have r4 : Rel (ra.cP n b) (cutD (cutB s n b p) n lot b) := by
  have h4 := r3'.next b.id l3'
  have hne : ra.next = (cutB s n b p).last + 1 := by unfold RS.next; rw [r3'.la]
  have e5 : ra.pc1 n b = pieceF (cutB s n b p) n lot b := by rw [epc]; unfold pieceF; rw [elast]
  have e6 : (pieceF (cutB s n b p) n lot b).id = (cutB s n b p).last + 1 := rfl
  refine ⟨h4.ru, h4.it, ?_, h4.lk, h4.la, h4.lo, h4.re, h4.nd, h4.il, h4.bd, h4.ll, h4.rl⟩
  show Shows Piece.id (ra.pieces ++ [ra.pc1 n b]) (put (cutB s n b p).pieces ((cutB s n b p).last + 1) (pieceF (cutB s n b p) n lot b))
  rw [e5]
  have := r3'.pc.snoc (x := pieceF (cutB s n b p) n lot b) (fun y hy => by have := l3'.pc _ _ ((r3'.pc.m y).1 hy); rw [e6]; omega)
  rw [e6] at this
  exact this
 have ecomm : cutD (cutC s n b p) n lot b = restF (cutD (cutB s n b p) n lot b) { b with length := b.length - (p + n.length), faults := partF b.faults (p + n.length) b.length } := by
  unfold cutC restF cutD pieceF
  dsimp only
  split <;> rfl
 have ers : restS n b p = { b with length := b.length - (p + n.length), faults := partF b.faults (p + n.length) b.length } := by unfold restS; rw [hbh]
 rw [ecomm]
 unfold RS.cut1
 rw [hr3]
 have eru : (ra.cP n b).rules = s.rules := r3'.ru.trans er3
 unfold RS.cR restF
 have er4 : (cutD (cutB s n b p) n lot b).rules = s.rules := er3
 rw [eru, ers]
 by_cases hc : s.rules.minLength ≤ b.length - (p + n.length)
 ·rw [if_pos hc, if_pos (by rw [er4]; exact hc)]
  exact r4.withI (x := { b with length := b.length - (p + n.length), faults := partF b.faults (p + n.length) b.length }) k1
 ·rw [if_neg hc, if_neg (by rw [er4]; exact hc)]
  exact r4.waste _
theorem Rel.chosen_eq (h : Rel r s) (hi : Inv s) (hk : lotOk s n lot = true) : pickL r.rules n lot day r.items = chosen s n lot day := by
 have hc : ∀ x, x ∈ r.items → candR r.rules n lot day x = candF s.rules n lot day x := fun x hx => by
  have ho := (hi.it _ _ ((h.it.m x).1 hx)).2
  unfold candR candF useF
  rw [h.ru]
  by_cases hl : x.lot = lot
  ·unfold lotOk at hk
   rw [← hl, ho.k] at hk
   simp only [Bool.and_eq_true, decide_eq_true_eq] at hk
   rw [hk.1, hk.2]
   simp only [decide_true, Bool.true_and]
   cases decide (x.lot = lot) <;> cases decide (n.width ≤ x.width) <;> cases decide (x.made ≤ day) <;> cases oldF s.rules x day <;> rfl
  ·rw [decide_eq_false hl]; rfl
 have hp := pickL_ok r.rules n lot day r.items
 refine (Go.Proofs.YtehlbomkldnalaaGreat.chosen_eq hi.keyed ?_).symm
 cases ho : pickL r.rules n lot day r.items with
 | none =>
  rw [ho] at hp
  intro q hq
  have hq' : q.2 ∈ r.items := (h.it.m q.2).2 (by
   have h1 := look_mem hi.ki (k := q.1) (v := q.2) hq
   rw [(hi.it _ _ h1).1]; exact h1)
  rw [← hc _ hq']; exact hp _ hq'
 | some b =>
  rw [ho] at hp
  refine ⟨mem_of_look ((h.it.m b).1 hp.1), by rw [← hc _ hp.1]; exact hp.2.1, fun q hq hqc => ?_⟩
  have hq' : q.2 ∈ r.items := (h.it.m q.2).2 (by
   have h1 := look_mem hi.ki (k := q.1) (v := q.2) hq
   rw [(hi.it _ _ h1).1]; exact h1)
  exact hp.2.2 _ hq' (by rw [hc _ hq']; exact hqc)
theorem Rel.chosen_no (h : Rel r s) (hi : Inv s) (hk : lotOk s n lot = false) : pickL r.rules n lot day r.items = none := by
 have hp := pickL_ok r.rules n lot day r.items
 cases ho : pickL r.rules n lot day r.items with
 | none => rfl
 | some b =>
  rw [ho] at hp
  have hk2 := (hi.it _ _ ((h.it.m b).1 hp.1)).2.k
  have hc := hp.2.1
  unfold candR at hc
  simp only [Bool.and_eq_true, decide_eq_true_eq] at hc
  unfold lotOk at hk
  rw [← hc.1, hk2] at hk
  simp only [hc.2.1, hc.2.2.1, decide_true, Bool.and_self] at hk
  cases hk
/-- what the reference cuts of a lot -/
noncomputable def oneR (s : SS) (n : Need) (lot day : Int) : Option (SS × Piece) := if lotOk s n lot then cutOneF s n lot day else none
noncomputable def allR (s : SS) (n : Need) (lot day : Int) (k : Nat) : Option (SS × List Piece) := if lotOk s n lot then cutAllF n lot day k s else none
theorem Ext.lotOk {s t : SS} (e : Ext s t) (h : lotOk s n lot = true) : lotOk t n lot = true := by
 unfold Go.Proofs.YtehlbomkldnalaaGreat.lotOk at h ⊢
 cases hq : look s.lots lot with
 | none => rw [hq] at h; cases h
 | some q => rw [hq] at h; rw [e.lo _ _ hq]; exact h
/-- the reference's cut is the program's -/
theorem Rel.one (h : Rel r s) (hi : Inv s) (hn : NeedOk n) : match pickL r.rules n lot day r.items with
  | none => oneR s n lot day = none
  | some b => ∃ p s', clear b.length b.faults n.length = some p ∧ look s.items b.id = some b ∧ b.lot = lot ∧ n.width ≤ b.width ∧ oneR s n lot day = some (s', ((r.cA b p).cB n b).pc1 n b) ∧ Rel (r.cut1 n b p) s' := by
 cases hk : lotOk s n lot with
 | false =>
  rw [h.chosen_no hi hk]
  show oneR s n lot day = none
  unfold oneR; rw [hk]; rfl
 | true =>
  rw [h.chosen_eq hi hk]
  have hch := chosen_is (n := n) (lot := lot) (day := day) hi.keyed
  unfold oneR
  rw [if_pos hk]
  unfold cutOneF
  cases hb : chosen s n lot day with
  | none => rfl
  | some b =>
   rw [hb] at hch
   obtain ⟨c1, c2, _⟩ := hch
   unfold candF at c2
   simp only [Bool.and_eq_true, decide_eq_true_eq] at c2
   obtain ⟨p0, hp0⟩ := Option.isSome_iff_exists.1 c2.2
   have hbl := look_mem hi.ki c1
   obtain ⟨a1, a2⟩ := rel_cut h hi hn hbl c2.1.1.1 c2.1.1.2 hp0
   refine ⟨p0, _, hp0, hbl, c2.1.1.1, c2.1.1.2, ?_, a1⟩
   dsimp only
   rw [hp0, Option.getD_some, a2]
end
end Go.Proofs.YtehlbomkldnalaaGreat

/- Boxes at a function's entry. -/
namespace Go.Proofs.YtehlbomkldnalaaGreat
open Go Go.RowKit
section
variable (w : World) (t1 t2 t3 t4 : TypeId) (c1 c2 c3 c4 : Array Value)
theorem box1 : Blk (w.alloc (.cells c1 t1)) w.heap.size t1 c1 ∧ Below w.heap.size w (w.alloc (.cells c1 t1)) ∧ (w.alloc (.cells c1 t1)).heap.size = w.heap.size + 1 :=
 ⟨Blk.new w t1 c1, (Below.refl _ _).alloc (Nat.le_refl _) _, by simp⟩
theorem box2 : Blk ((w.alloc (.cells c1 t1)).alloc (.cells c2 t2)) w.heap.size t1 c1 ∧ Blk ((w.alloc (.cells c1 t1)).alloc (.cells c2 t2)) (w.heap.size + 1) t2 c2 ∧ Below w.heap.size w ((w.alloc (.cells c1 t1)).alloc (.cells c2 t2)) ∧ ((w.alloc (.cells c1 t1)).alloc (.cells c2 t2)).heap.size = w.heap.size + 2 := by
 obtain ⟨a1, a2, a3⟩ := box1 w t1 c1
 obtain ⟨b1, b2, b3⟩ := box1 (w.alloc (.cells c1 t1)) t2 c2
 rw [a3] at b1 b3
 exact ⟨a1.alloc _, b1, a2.trans (b2.mono (by simp)), b3⟩
theorem box3 : Blk (((w.alloc (.cells c1 t1)).alloc (.cells c2 t2)).alloc (.cells c3 t3)) w.heap.size t1 c1 ∧ Blk (((w.alloc (.cells c1 t1)).alloc (.cells c2 t2)).alloc (.cells c3 t3)) (w.heap.size + 1) t2 c2 ∧ Blk (((w.alloc (.cells c1 t1)).alloc (.cells c2 t2)).alloc (.cells c3 t3)) (w.heap.size + 2) t3 c3 ∧ Below w.heap.size w (((w.alloc (.cells c1 t1)).alloc (.cells c2 t2)).alloc (.cells c3 t3)) ∧ (((w.alloc (.cells c1 t1)).alloc (.cells c2 t2)).alloc (.cells c3 t3)).heap.size = w.heap.size + 3 := by
 obtain ⟨a1, a2, a3, a4⟩ := box2 w t1 t2 c1 c2
 obtain ⟨b1, b2, b3⟩ := box1 ((w.alloc (.cells c1 t1)).alloc (.cells c2 t2)) t3 c3
 rw [a4] at b1 b3
 exact ⟨a1.alloc _, a2.alloc _, b1, a3.trans (b2.mono (by simp <;> omega)), b3⟩
theorem box4 : Blk ((((w.alloc (.cells c1 t1)).alloc (.cells c2 t2)).alloc (.cells c3 t3)).alloc (.cells c4 t4)) w.heap.size t1 c1 ∧ Blk ((((w.alloc (.cells c1 t1)).alloc (.cells c2 t2)).alloc (.cells c3 t3)).alloc (.cells c4 t4)) (w.heap.size + 1) t2 c2 ∧ Blk ((((w.alloc (.cells c1 t1)).alloc (.cells c2 t2)).alloc (.cells c3 t3)).alloc (.cells c4 t4)) (w.heap.size + 2) t3 c3 ∧ Blk ((((w.alloc (.cells c1 t1)).alloc (.cells c2 t2)).alloc (.cells c3 t3)).alloc (.cells c4 t4)) (w.heap.size + 3) t4 c4 ∧ Below w.heap.size w ((((w.alloc (.cells c1 t1)).alloc (.cells c2 t2)).alloc (.cells c3 t3)).alloc (.cells c4 t4)) ∧ ((((w.alloc (.cells c1 t1)).alloc (.cells c2 t2)).alloc (.cells c3 t3)).alloc (.cells c4 t4)).heap.size = w.heap.size + 4 := by
 obtain ⟨a1, a2, a5, a3, a4⟩ := box3 w t1 t2 t3 c1 c2 c3
 obtain ⟨b1, b2, b3⟩ := box1 (((w.alloc (.cells c1 t1)).alloc (.cells c2 t2)).alloc (.cells c3 t3)) t4 c4
 rw [a4] at b1 b3
 exact ⟨a1.alloc _, a2.alloc _, a5.alloc _, b1, a3.trans (b2.mono (by simp <;> omega)), b3⟩
end
/-- a zero value that is built -/
theorem wpList_zero {P : Program} {ops : Array Oper} {rest : List Oper} {o : Oper} {a : Act} {w : World} {Q : Exit → Act → World → Prop} (hgd : o.guard = none) {t : TypeId} (ho : o.op = .build t #[]) (v : Value) (hr : ∀ w, (Instr.build t #[]).run P w = .ok v w) (h : wpList P ops Q rest (a.put o.dst v) w) : wpList P ops Q (o :: rest) a w := by
 refine wpList_plain hgd fun _ hK => ?_
 unfold Oper.wp
 rw [exec_bstruct (ps := #[]) ho (by simp) (hr w)]
 exact hK _ _ h
theorem zero_roll (w : World) : (Instr.build 43 #[]).run Tryz.prog w = .ok (.agg ↑zlA) w := by kernel_rfl
theorem zero_sheet (w : World) : (Instr.build 93 #[]).run Tryz.prog w = .ok (.agg ↑zsA) w := by kernel_rfl
theorem zero_piece (w : World) : (Instr.build 96 #[]).run Tryz.prog w = .ok (.agg ↑zpA) w := by kernel_rfl
end Go.Proofs.YtehlbomkldnalaaGreat

/- The reference's lookups: parent, lot, item, Piece, next: the walks. -/
namespace Go.Proofs.YtehlbomkldnalaaGreat
open Go Go.RowKit
set_option maxRecDepth 100000 in
set_option maxHeartbeats 2000000 in
theorem parent_any (v : RV) (r : RS) (P : Nat → Prop) (id : Int) (w : World) (h : RAt w P v r) (hl : r.links.length ≤ 1000000) (o : Option Int) (ho : look r.links id = o) :
  Calls Tryz.prog 49 #[.agg ↑v, id] w fun e w' => e = .returned (.tuple #[.int .i64 (o.getD 0), .bool o.isSome]) ∧ Below w.heap.size w w' := by
 have hL := h.links
 have HNL := hide h.nl
 have HO := hide ho
 clear ho
 obtain ⟨hb, hal, hsz⟩ := box1 w 38 ↑v
 have HAL := hide hal
 replace hL := Slc.on hL hal
 clear h hsz
 go_enter Tryz.func49, Tryz.ntmps49
 go_upto_region 1 with fail
 generalize w.alloc (.cells ↑v 38) = W at *
 have c8 := hb.cell_ 8 (v := .slice v.Al v.nl v.cl) rfl
 clear hb hal
 obtain ⟨nl, hnn⟩ := nm_ v.nl
 rw [hnn] at c8 HNL
 have hnb : nl ≤ 1000000 := by rw [HNL.out]; exact hl
 clear hnn hl
 go_wp2_with fail
 go_loopw [6] (fun z wr => ∃ (i : Nat), z = .int .i64 i ∧ i ≤ nl ∧ Hid (look (r.links.drop i) id = o) ∧ wr = W) (fun z _ => nl - (intOf z).toNat)
 case atStart => exact ⟨0, rfl, Nat.zero_le _, HO, rfl⟩
 case round =>
  obtain ⟨i, rfl, hi, HK, rfl⟩ := hrel
  by_cases hlt : i < nl
  ·obtain ⟨x, hx⟩ : ∃ x, r.links[i]? = some x := ⟨_, List.getElem?_eq_getElem (by rw [← HNL.out]; exact hlt)⟩
   obtain ⟨b1, o1, hA1, _, d0, d1⟩ := lk_at hL hx
   have HD := hide (look_drop hx id)
   have hii : (i : Int) < (nl : Int) := by omega
   have ei := wsuc i (by omega)
   clear hx
   rw [hA1] at c8
   clear hA1
   by_cases h1 : x.1 = id
   ·have HR : Hid (o = some x.2) := by show _ = _; rw [← HK.out, HD.out, if_pos h1]
    go_wp2_with fail
    go_ret2
    exact ⟨by rw [HR.out]; rfl, HAL.out⟩
   ·have HK2 : Hid (look (r.links.drop (i + 1)) id = o) := by show _ = _; rw [← HK.out, HD.out, if_neg h1]
    go_wp2_with fail
    go_roundw
    case rel => exact ⟨i + 1, by go_num, by omega, HK2, (by first | rfl | trivial)⟩
    case measure => simp [intOf]; omega
  ·obtain rfl : i = nl := by omega
   have HR : Hid (o = none) := by
    show _ = _
    rw [← HK.out, List.drop_of_length_le (by rw [HNL.out]; exact Nat.le_refl _)]; rfl
   go_wp2_with fail
   go_ret2
   exact ⟨by rw [HR.out]; rfl, HAL.out⟩
set_option maxRecDepth 100000 in
set_option maxHeartbeats 4000000 in
theorem lot_any (v : RV) (r : RS) (P : Nat → Prop) (lot : Int) (w : World) (h : RAt w P v r) (hl : r.rolls.length ≤ 1000000) (o : Option RH) (ho : r.lotR lot = o) :
  Calls Tryz.prog 50 #[.agg ↑v, lot] w fun e w' => (∃ g : RH, e = .returned (.tuple #[.agg #[g.id, g.gr, g.co, g.lo, g.ma, g.wi, g.le, .slice g.A g.n g.c], .bool o.isSome]) ∧ g = o.getD default) ∧ Below w.heap.size w w' := by
 have hL := h.rolls
 have HNL := hide h.nr
 have HO := hide ho
 clear ho
 obtain ⟨hb, hr, hal, hsz⟩ := box2 w 38 43 ↑v ↑zlA
 have HAL := hide hal
 go_enter Tryz.func50, Tryz.ntmps50
 go_upto_region 1 with fail
 generalize (w.alloc (.cells ↑v 38)).alloc (.cells ↑zlA 43) = W at *
 clear hsz
 replace hL := Slc.on hL hal
 have c5 := hb.cell_ 5 (v := .slice v.Ar v.nr v.cr) rfl
 clear hb hal h
 obtain ⟨nl, hnn⟩ := nm_ v.nr
 rw [hnn] at c5 HNL
 have hnb : nl ≤ 1000000 := by rw [HNL.out]; exact hl
 clear hnn hl
 go_wp2_with fail
 go_loopw [6] (fun z wr => ∃ (i : Nat), z = .int .i64 i ∧ i ≤ nl ∧ Hid ((r.rolls.drop i).find? (fun h => decide (h.lo = lot)) = o) ∧ wr = W) (fun z _ => nl - (intOf z).toNat)
 case atStart => exact ⟨0, rfl, Nat.zero_le _, HO, rfl⟩
 case round =>
  obtain ⟨i, rfl, hi, HK, rfl⟩ := hrel
  by_cases hlt : i < nl
  ·obtain ⟨x, hx⟩ : ∃ x, r.rolls[i]? = some x := ⟨_, List.getElem?_eq_getElem (by rw [← HNL.out]; exact hlt)⟩
   obtain ⟨b1, o1, hA1, _, d0, d1, d2, d3, d4, d5, d6, d7⟩ := rh_at hL hx
   have HD := hide (find_drop hx fun h => decide (h.lo = lot))
   have hii : (i : Int) < (nl : Int) := by omega
   have ei := wsuc i (by omega)
   clear hx
   rw [hA1] at c5
   clear hA1
   by_cases h1 : x.lo = lot
   ·have HR : Hid (o = some x) := by show _ = _; rw [← HK.out, HD.out, if_pos (decide_eq_true h1)]
    subst h1
    go_wp2_with (refine wpList_store_blk rfl 43 _ _ rfl #[x.id, x.gr, x.co, x.lo, x.ma, x.wi, x.le, .slice x.A x.n x.c] hr rfl rfl (by kernel_rfl) rfl (by simp [Value.oneCell']) ?_; intro W9 hr9 hc9; obtain ⟨q0, q1, q2, q3, q4, q5, q6, q7⟩ := hr9.all8)
    have hB9 := HAL.out.trans (hc9.below1 (B := w.heap.size) HAL.out.size (by omega))
    refine bodyPost_ret (v := .tuple #[.agg #[x.id, x.gr, x.co, x.lo, x.ma, x.wi, x.le, .slice x.A x.n x.c], .bool true]) (by simp [results, Tryz.results50, go_sem, q0, q1, q2, q3, q4, q5, q6, q7]) rfl ?_
    exact ⟨by first | exact ⟨x, by rw [HR.out]; rfl, by rw [HR.out]; rfl⟩ | (rw [HR.out]; rfl), hB9⟩
   ·have HK2 : Hid ((r.rolls.drop (i + 1)).find? (fun h => decide (h.lo = lot)) = o) := by show _ = _; rw [← HK.out, HD.out, if_neg (by simpa using h1)]
    go_wp2_with fail
    go_roundw
    case rel => exact ⟨i + 1, by go_num, by omega, HK2, (by first | rfl | trivial)⟩
    case measure => simp [intOf]; omega
  ·obtain rfl : i = nl := by omega
   have HR : Hid (o = none) := by
    show _ = _
    rw [← HK.out, List.drop_of_length_le (by rw [HNL.out]; exact Nat.le_refl _)]; rfl
   go_wp2_with (first | (refine wpList_zero rfl rfl _ zero_roll ?_) | (refine wpList_store_blk rfl 43 _ _ rfl ↑zlA hr rfl rfl (by kernel_rfl) rfl (by simp [Value.oneCell']) ?_; intro W9 hr9 hc9; obtain ⟨q0, q1, q2, q3, q4, q5, q6, q7⟩ := hr9.all8))
   have hB9 := HAL.out.trans (hc9.below1 (B := w.heap.size) HAL.out.size (by omega))
   refine bodyPost_ret (v := .tuple #[.agg ↑zlA, .bool false]) (by simp [results, Tryz.results50, go_sem, q0, q1, q2, q3, q4, q5, q6, q7]) rfl ?_
   exact ⟨⟨default, by rw [HR.out]; rfl, by rw [HR.out]; rfl⟩, hB9⟩
set_option maxRecDepth 100000 in
set_option maxHeartbeats 4000000 in
theorem rpiece_any (v : RV) (r : RS) (P : Nat → Prop) (id : Int) (w : World) (h : RAt w P v r) (hl : r.pieces.length ≤ 1000000) (o : Option Piece) (ho : r.pieceR id = o) :
  Calls Tryz.prog 58 #[.agg ↑v, id] w fun e w' => (∃ x : Piece, e = .returned (.tuple #[.agg ↑x, .bool o.isSome]) ∧ ∀ y, o = some y → x = y) ∧ Below w.heap.size w w' := by
 have hL := h.pieces
 have HNL := hide h.np
 have HO := hide ho
 clear ho
 obtain ⟨hb, hr, hal, hsz⟩ := box2 w 38 96 ↑v ↑zpA
 have HAL := hide hal
 go_enter Tryz.func58, Tryz.ntmps58
 go_upto_region 1 with fail
 generalize (w.alloc (.cells ↑v 38)).alloc (.cells ↑zpA 96) = W at *
 clear hsz
 replace hL := Slc.on hL hal
 have c7 := hb.cell_ 7 (v := .slice v.Ap v.np v.cp) rfl
 clear hb hal h
 obtain ⟨nl, hnn⟩ := nm_ v.np
 rw [hnn] at c7 HNL
 have hnb : nl ≤ 1000000 := by rw [HNL.out]; exact hl
 clear hnn hl
 go_wp2_with fail
 go_loopw [6] (fun z wr => ∃ (i : Nat), z = .int .i64 i ∧ i ≤ nl ∧ Hid ((r.pieces.drop i).find? (fun h => decide (h.id = id)) = o) ∧ wr = W) (fun z _ => nl - (intOf z).toNat)
 case atStart => exact ⟨0, rfl, Nat.zero_le _, HO, rfl⟩
 case round =>
  obtain ⟨i, rfl, hi, HK, rfl⟩ := hrel
  by_cases hlt : i < nl
  ·obtain ⟨x, hx⟩ : ∃ x, r.pieces[i]? = some x := ⟨_, List.getElem?_eq_getElem (by rw [← HNL.out]; exact hlt)⟩
   obtain ⟨b1, o1, hA1, _, d0, d1, d2, d3, d4, d5, d6, d7⟩ := pce_at hL hx
   have HD := hide (find_drop hx fun h => decide (h.id = id))
   have hii : (i : Int) < (nl : Int) := by omega
   have ei := wsuc i (by omega)
   clear hx
   rw [hA1] at c7
   clear hA1
   by_cases h1 : x.id = id
   ·have HR : Hid (o = some x) := by show _ = _; rw [← HK.out, HD.out, if_pos (decide_eq_true h1)]
    subst h1
    go_wp2_with (refine wpList_store_blk rfl 96 _ _ rfl ↑x hr rfl rfl (by kernel_rfl) rfl (by simp [Value.oneCell']) ?_; intro W9 hr9 hc9; obtain ⟨q0, q1, q2, q3, q4, q5, q6, q7⟩ := hr9.all8)
    have hB9 := HAL.out.trans (hc9.below1 (B := w.heap.size) HAL.out.size (by omega))
    refine bodyPost_ret (v := .tuple #[.agg ↑x, .bool true]) (by simp [results, Tryz.results58, go_sem, q0, q1, q2, q3, q4, q5, q6, q7]) rfl ?_
    exact ⟨⟨x, by rw [HR.out]; rfl, fun y hy => by rw [HR.out] at hy; injection hy⟩, hB9⟩
   ·have HK2 : Hid ((r.pieces.drop (i + 1)).find? (fun h => decide (h.id = id)) = o) := by show _ = _; rw [← HK.out, HD.out, if_neg (by simpa using h1)]
    go_wp2_with fail
    go_roundw
    case rel => exact ⟨i + 1, by go_num, by omega, HK2, (by first | rfl | trivial)⟩
    case measure => simp [intOf]; omega
  ·obtain rfl : i = nl := by omega
   have HR : Hid (o = none) := by
    show _ = _
    rw [← HK.out, List.drop_of_length_le (by rw [HNL.out]; exact Nat.le_refl _)]; rfl
   go_wp2_with (first | (refine wpList_zero rfl rfl _ zero_piece ?_) | (refine wpList_store_blk rfl 96 _ _ rfl ↑zpA hr rfl rfl (by kernel_rfl) rfl (by simp [Value.oneCell']) ?_; intro W9 hr9 hc9; obtain ⟨q0, q1, q2, q3, q4, q5, q6, q7⟩ := hr9.all8))
   have hB9 := HAL.out.trans (hc9.below1 (B := w.heap.size) HAL.out.size (by omega))
   refine bodyPost_ret (v := .tuple #[.agg ↑zpA, .bool false]) (by simp [results, Tryz.results58, go_sem, q0, q1, q2, q3, q4, q5, q6, q7]) rfl ?_
   exact ⟨⟨⟨0, 0, 0, 0, 0, 0, 0, 0⟩, by rw [HR.out]; rfl, fun y hy => by rw [HR.out] at hy; cases hy⟩, hB9⟩
set_option maxRecDepth 100000 in
set_option maxHeartbeats 4000000 in
theorem item_any (v : RV) (r : RS) (P : Nat → Prop) (id : Int) (w : World) (h : RAt w P v r) (hl : r.items.length ≤ 1000000) (o : Option Sheet) (ho : r.itemR id = o) :
  Calls Tryz.prog 60 #[.agg ↑v, id] w fun e w' => (∃ x : SH, e = .returned (.tuple #[.agg ↑x, .bool o.isSome])) ∧ Below w.heap.size w w' := by
 obtain ⟨hs, hL, hI⟩ := h.items
 have HNL := hide h.ni
 have HO := hide ho
 have HII := hide hI
 clear ho hI
 obtain ⟨hb, hr, hal, hsz⟩ := box2 w 38 93 ↑v ↑zsA
 have HAL := hide hal
 go_enter Tryz.func60, Tryz.ntmps60
 go_upto_region 1 with fail
 generalize (w.alloc (.cells ↑v 38)).alloc (.cells ↑zsA 93) = W at *
 clear hsz
 replace hL := Slc.on hL hal
 have c6 := hb.cell_ 6 (v := .slice v.Ai v.ni v.ci) rfl
 clear hb hal h
 obtain ⟨nl, hnn⟩ := nm_ v.ni
 rw [hnn] at c6 HNL
 have hnb : nl ≤ 1000000 := by rw [HNL.out]; exact hl
 clear hnn hl
 go_wp2_with fail
 go_loopw [6] (fun z wr => ∃ (i : Nat), z = .int .i64 i ∧ i ≤ nl ∧ Hid ((r.items.drop i).find? (fun h => decide (h.id = id)) = o) ∧ wr = W) (fun z _ => nl - (intOf z).toNat)
 case atStart => exact ⟨0, rfl, Nat.zero_le _, HO, rfl⟩
 case round =>
  obtain ⟨i, rfl, hi, HK, rfl⟩ := hrel
  by_cases hlt : i < nl
  ·obtain ⟨x, hx⟩ : ∃ x, r.items[i]? = some x := ⟨_, List.getElem?_eq_getElem (by rw [← HNL.out]; exact hlt)⟩
   obtain ⟨A', c', hh, _⟩ := HII.out.at_ hx
   obtain ⟨b1, o1, hA1, _, d0, d1, d2, d3, d4, d5, d6, d7, d8⟩ := sh_at hL hh
   have HD := hide (find_drop hx fun h => decide (h.id = id))
   have hii : (i : Int) < (nl : Int) := by omega
   have ei := wsuc i (by omega)
   clear hx hh
   rw [hA1] at c6
   clear hA1
   by_cases h1 : x.id = id
   ·have HR : Hid (o = some x) := by show _ = _; rw [← HK.out, HD.out, if_pos (decide_eq_true h1)]
    subst h1
    go_wp2_with (refine wpList_store_blk rfl 93 _ _ rfl ↑(x, A', c') hr rfl rfl (by kernel_rfl) rfl (by simp [Value.oneCell']) ?_; intro W9 hr9 hc9; obtain ⟨q0, q1, q2, q3, q4, q5, q6, q7, q8⟩ := hr9.all9)
    have hB9 := HAL.out.trans (hc9.below1 (B := w.heap.size) HAL.out.size (by omega))
    refine bodyPost_ret (v := .tuple #[.agg ↑(x, A', c'), .bool true]) (by simp [results, Tryz.results60, go_sem, q0, q1, q2, q3, q4, q5, q6, q7, q8]) rfl ?_
    exact ⟨⟨SH.of x A' c', by rw [HR.out]; rfl⟩, hB9⟩
   ·have HK2 : Hid ((r.items.drop (i + 1)).find? (fun h => decide (h.id = id)) = o) := by show _ = _; rw [← HK.out, HD.out, if_neg (by simpa using h1)]
    go_wp2_with fail
    go_roundw
    case rel => exact ⟨i + 1, by go_num, by omega, HK2, (by first | rfl | trivial)⟩
    case measure => simp [intOf]; omega
  ·obtain rfl : i = nl := by omega
   have HR : Hid (o = none) := by
    show _ = _
    rw [← HK.out, List.drop_of_length_le (by rw [HNL.out]; exact Nat.le_refl _)]; rfl
   go_wp2_with (first | (refine wpList_zero rfl rfl _ zero_sheet ?_) | (refine wpList_store_blk rfl 93 _ _ rfl ↑zsA hr rfl rfl (by kernel_rfl) rfl (by simp [Value.oneCell']) ?_; intro W9 hr9 hc9; obtain ⟨q0, q1, q2, q3, q4, q5, q6, q7, q8⟩ := hr9.all9))
   have hB9 := HAL.out.trans (hc9.below1 (B := w.heap.size) HAL.out.size (by omega))
   refine bodyPost_ret (v := .tuple #[.agg ↑zsA, .bool false]) (by simp [results, Tryz.results60, go_sem, q0, q1, q2, q3, q4, q5, q6, q7, q8]) rfl ?_
   exact ⟨⟨default, by rw [HR.out]; rfl⟩, hB9⟩
theorem maxL_nn (l : List (Int × Int)) : 0 ≤ maxL l := by
 unfold maxL
 have : ∀ (l : List (Int × Int)) (n : Int), 0 ≤ n → 0 ≤ l.foldl (fun n p => imax n p.1) n := by
  intro l
  induction l with
  | nil => exact fun n h => h
  | cons p l ih => intro n h; exact ih _ (by dsimp only; unfold imax; split <;> omega)
 exact this l 0 (Int.le_refl _)
set_option maxRecDepth 100000 in
set_option maxHeartbeats 4000000 in
theorem next_any (v : RV) (r : RS) (P : Nat → Prop) (w : World) (h : RAt w P v r) (hl : r.links.length ≤ 1000000) (hm : maxL r.links ≤ 1000000000000) (k : Int) (hk : r.next = k) :
  Calls Tryz.prog 93 #[.agg ↑v] w fun e w' => e = .returned (.int .i64 k) ∧ Below w.heap.size w w' := by
 have hL := h.links
 have HNL := hide h.nl
 have HM := hide hm
 have HKK := hide hk
 clear hm hk
 obtain ⟨hb, hal, hsz⟩ := box1 w 38 ↑v
 have HAL := hide hal
 replace hL := Slc.on hL hal
 clear h hsz
 go_enter Tryz.func93, Tryz.ntmps93
 go_upto_region 1 with fail
 generalize w.alloc (.cells ↑v 38) = W at *
 have c8 := hb.cell_ 8 (v := .slice v.Al v.nl v.cl) rfl
 clear hb hal
 obtain ⟨nl, hnn⟩ := nm_ v.nl
 rw [hnn] at c8 HNL
 have hnb : nl ≤ 1000000 := by rw [HNL.out]; exact hl
 clear hnn hl
 go_wp2_with fail
 go_loopw [3, 4] (fun y z wr => ∃ (i : Nat) (m : Int), y = .int .i64 m ∧ z = .int .i64 i ∧ i ≤ nl ∧ Hid (maxL (r.links.take i) = m) ∧ wr = W) (fun _ z _ => nl - (intOf z).toNat)
 case atStart => exact ⟨0, 0, rfl, rfl, Nat.zero_le _, (rfl : Hid _), rfl⟩
 case round =>
  obtain ⟨i, m, rfl, rfl, hi, HK, rfl⟩ := hrel
  by_cases hlt : i < nl
  ·obtain ⟨x, hx⟩ : ∃ x, r.links[i]? = some x := ⟨_, List.getElem?_eq_getElem (by rw [← HNL.out]; exact hlt)⟩
   obtain ⟨b1, o1, hA1, _, d0, d1⟩ := lk_at hL hx
   obtain ⟨x1, hx1⟩ := nm_ (x.1)
   have HK2 : Hid (maxL (r.links.take (i + 1)) = max m x1) := by show _ = _; rw [maxL_take hx, HK.out, imax_max, hx1]
   rw [hx1] at d0
   have hii : (i : Int) < (nl : Int) := by omega
   have ei := wsuc i (by omega)
   clear hx hx1
   rw [hA1] at c8
   clear hA1 d1
   go_wp2_with fail
   go_roundw
   case rel => exact ⟨i + 1, _, rfl, by go_num, by omega, HK2, (by first | rfl | trivial)⟩
   case measure => simp [intOf]; omega
  ·obtain rfl : i = nl := by omega
   have HR : Hid (m + 1 = k) := by
    show _ = _
    rw [← HKK.out, ← HK.out, List.take_of_length_le (by rw [HNL.out]; exact Nat.le_refl _)]; rfl
   have em := IntWalk.i64_in (m + 1) (by
    have h1 := HK.out
    have h2 := HM.out
    rw [List.take_of_length_le (by rw [HNL.out]; exact Nat.le_refl _)] at h1
    have h3 := maxL_nn r.links
    omega)
   go_wp2_with fail
   go_ret
   exact ⟨by show Ending.returned (.int .i64 (m + 1)) = _; rw [HR.out], HAL.out⟩
end Go.Proofs.YtehlbomkldnalaaGreat

/- The reference's makers of stores: without, dropped, with, linked; front, behind: the walks. -/
namespace Go.Proofs.YtehlbomkldnalaaGreat
open Go Go.RowKit
def StPost (P : Nat → Prop) (r : RS) (w : World) (e : Ending) (w' : World) : Prop := ∃ v2 : RV, e = .returned (.agg ↑v2) ∧ RAt w' P v2 r ∧ Below w.heap.size w w'
theorem filter_take {α : Type} {l : List α} {i : Nat} {x : α} (h : l[i]? = some x) (f : α → Bool) : (l.take (i + 1)).filter f = (l.take i).filter f ++ if f x then [x] else [] := by
 rw [List.take_add_one, h, Option.toList_some, List.filter_append]
 congr 1
 cases hf : f x <;> simp [hf]
theorem take_snoc {α : Type} {l : List α} {i : Nat} {x : α} (h : l[i]? = some x) : l.take (i + 1) = l.take i ++ [x] := by rw [List.take_add_one, h, Option.toList_some]
theorem shh_at {w : World} {B : Nat} {A : Option Addr} {hs : List SH} {i : Nat} {x : SH} (h : Slc SH.enc 9 w B A hs) (hi : hs[i]? = some x) : ∃ b off, A = some ⟨b, off, none⟩ ∧ b < B ∧
  w.cell? ⟨b, off + i * 9, none⟩ = some (.int .i64 x.id) ∧ w.cell? ⟨b, off + i * 9 + 1, none⟩ = some (.int .i64 x.root) ∧ w.cell? ⟨b, off + i * 9 + 2, none⟩ = some (.int .i64 x.gr) ∧ w.cell? ⟨b, off + i * 9 + 3, none⟩ = some (.int .i64 x.co) ∧ w.cell? ⟨b, off + i * 9 + 4, none⟩ = some (.int .i64 x.lo) ∧
  w.cell? ⟨b, off + i * 9 + 5, none⟩ = some (.int .i64 x.ma) ∧ w.cell? ⟨b, off + i * 9 + 6, none⟩ = some (.int .i64 x.wi) ∧ w.cell? ⟨b, off + i * 9 + 7, none⟩ = some (.int .i64 x.le) ∧ w.cell? ⟨b, off + i * 9 + 8, none⟩ = some (.slice x.A x.n x.c) := by
 obtain ⟨b, off, hA, hb, h0⟩ := h i _ hi
 exact ⟨b, off, hA, hb, h0 0 _ rfl, h0 1 _ rfl, h0 2 _ rfl, h0 3 _ rfl, h0 4 _ rfl, h0 5 _ rfl, h0 6 _ rfl, h0 7 _ rfl, h0 8 _ rfl⟩
section
variable {w : World} {P : Nat → Prop}
theorem RsIn.cons_inv {h : SH} {hs : List SH} {x : Sheet} {xs : List Sheet} (k : RsIn w P (h :: hs) (x :: xs)) : RsV w P x h ∧ RsIn w P hs xs :=
 ⟨k.ok 0 x h rfl rfl, by have := k.len; simpa using this, fun i y j hy hj => k.ok (i + 1) y j hy hj⟩
theorem RsIn.cons_ {h : SH} {hs : List SH} {x : Sheet} {xs : List Sheet} (hx : RsV w P x h) (k : RsIn w P hs xs) : RsIn w P (h :: hs) (x :: xs) :=
 ⟨by rw [List.length_cons, List.length_cons, k.len], fun i y j hy hj => by
  cases i with
  | zero => injection hy with hy; injection hj with hj; subst hy hj; exact hx
  | succ i => exact k.ok i y j hy hj⟩
theorem RsV.id_ {x : Sheet} {h : SH} (k : RsV w P x h) : h.id = x.id := by obtain ⟨A, c, rfl, _⟩ := k; rfl
theorem RsIn.filt (f : Int → Bool) : ∀ {hs : List SH} {xs : List Sheet}, RsIn w P hs xs → RsIn w P (hs.filter fun h => f h.id) (xs.filter fun x => f x.id)
 | [], [], k => k
 | [], _ :: _, k => by have := k.len; simp at this
 | _ :: _, [], k => by have := k.len; simp at this
 | h :: hs, x :: xs, k => by
  obtain ⟨k1, k2⟩ := k.cons_inv
  have ih := RsIn.filt f k2
  rw [List.filter_cons, List.filter_cons, k1.id_]
  cases hf : f x.id with
  | true => rw [if_pos rfl, if_pos rfl]; exact ih.cons_ k1
  | false => rw [if_neg (by decide), if_neg (by decide)]; exact ih
theorem RsIn.ins {h : SH} {x : Sheet} (hx : RsV w P x h) : ∀ {hs : List SH} {xs : List Sheet}, RsIn w P hs xs → RsIn w P (insG (fun y : SH => decide (h.id < y.id)) h hs) (insG (fun y => decide (x.id < y.id)) x xs)
 | [], [], k => (RsIn.nil_ w P).cons_ hx
 | [], _ :: _, k => by have := k.len; simp at this
 | _ :: _, [], k => by have := k.len; simp at this
 | g :: hs, y :: xs, k => by
  obtain ⟨k1, k2⟩ := k.cons_inv
  have ih := RsIn.ins hx k2
  unfold insG
  rw [k1.id_, hx.id_]
  rw [hx.id_] at ih
  cases hf : decide (x.id < y.id) with
  | true => rw [if_pos rfl, if_pos rfl]; exact k.cons_ hx
  | false => rw [if_neg (by decide), if_neg (by decide)]; exact ih.cons_ k1
end
set_option maxRecDepth 100000 in
set_option maxHeartbeats 4000000 in
theorem without_any (v : RV) (r : RS) (P : Nat → Prop) (id : Int) (w : World) (h : RAt w P v r) (hP : ∀ k, P k → k < w.heap.size) (hl : r.items.length ≤ 1000000) :
  Calls Tryz.prog 61 #[.agg ↑v, id] w (StPost P (r.without id) w) := by
 have HH := hide h
 have HPP := hide hP
 obtain ⟨hs, hL, hI⟩ := h.items
 have hnl : v.ni = hs.length := h.ni.trans hI.len.symm
 have hhl : hs.length ≤ 1000000 := by rw [hI.len]; exact hl
 have HII := hide hI
 clear hI h hP hl
 have HNL := hide hnl
 clear hnl
 obtain ⟨hb, hr, hal, hsz⟩ := box2 w 38 38 ↑v ↑zrA
 have HW := hide hal
 go_enter Tryz.func61, Tryz.ntmps61
 go_upto_region 1 with fail
 generalize (w.alloc (.cells ↑v 38)).alloc (.cells ↑zrA 38) = W at *
 replace hL := Slc.on hL hal
 clear hal
 obtain ⟨base, hbase⟩ := nm_ W.heap.size
 have hbw : w.heap.size + 2 = base := by omega
 have HBS := hide hbase
 clear hsz hbase
 go_upto_region 3 with fail
 go_loopw [5, 6] (fun y z wr => ∃ (i : Nat) (ls : List SH), z = .int .i64 i ∧ i ≤ hs.length ∧ ls.length ≤ i ∧ Hid (ls = (hs.take i).filter fun h => !decide (h.id = id)) ∧ Own wr base 93 9 SH.enc y ls ∧ Below W.heap.size W wr) (fun _ z _ => hs.length - (intOf z).toNat)
 case atStart => exact ⟨0, [], rfl, Nat.zero_le _, Nat.le_refl _, rfl, Own.nil_, Below.refl _ _⟩
 case round =>
  obtain ⟨W2, rfl⟩ := is_ wr
  obtain ⟨i, ls, rfl, hi, hll, HLS, hO, hB⟩ := hrel
  replace hb := hb.below hB hb.lt
  replace hr := hr.below hB hr.lt
  replace hL := Slc.on hL hB
  have hBs : base ≤ W2.heap.size := by rw [← HBS.out]; exact hB.size
  have cX := hb.cell_ 6 (v := .slice v.Ai v.ni v.ci) rfl
  rw [HNL.out] at cX
  by_cases hlt : i < hs.length
  ·obtain ⟨x, hx⟩ : ∃ x, hs[i]? = some x := ⟨_, List.getElem?_eq_getElem hlt⟩
   obtain ⟨b1, o1, hA1, _, d0, d1, d2, d3, d4, d5, d6, d7, d8⟩ := shh_at hL hx
   have hii : (i : Int) < (hs.length : Int) := by omega
   have ei := wsuc i (by omega)
   have HT0 := hide (filter_take hx fun h => !decide (h.id = id))
   rw [hA1] at cX
   clear hx hA1 hL hb hr
   by_cases h1 : x.id = id
   ·have HT : Hid (ls = (hs.take (i + 1)).filter fun h => !decide (h.id = id)) := by show _ = _; rw [HT0.out, if_neg (by simp [h1]), List.append_nil]; exact HLS.out
    clear HT0 HLS
    go_wp2_with fail
    clear cX
    go_roundw
    case rel => exact ⟨i + 1, ls, by go_num, by omega, by omega, HT, hO, hB⟩
    case measure => simp [intOf]; omega
   ·have HT : Hid (ls ++ [x] = (hs.take (i + 1)).filter fun h => !decide (h.id = id)) := by show _ = _; rw [HT0.out, if_pos (by simp [h1]), HLS.out]
    clear HT0 HLS
    go_wp2_with (at_builtin; refine wpList_app_own (base := base) (f := SH.enc) (ys := [x]) _ _ rfl rfl et_sheet (hO.alloc _) rfl rfl ((Blk.new W2 93 ↑x).slc1 rfl) rfl sh_len sh_one (by simp <;> omega) (by simp <;> omega) ?_; intro v6 W6 hO6 hb6 hg6)
    have hal := (Below.refl W2.heap.size W2).alloc (Nat.le_refl _) (.cells ↑x 93)
    replace hB := (hB.trans (hal.mono hB.size)).trans (by rw [← HBS.out] at hb6; exact hb6)
    clear hO hal hb6 hg6 cX d0 d1 d2 d3 d4 d5 d6 d7 d8
    go_roundw
    case rel => exact ⟨i + 1, ls ++ [x], by go_num, by omega, by simp; omega, HT, hO6, hB⟩
    case measure => simp [intOf]; omega
  ·obtain rfl : i = hs.length := by omega
   have HLL : Hid ((hs.filter fun h => !decide (h.id = id)) = ls) := by show _ = _; rw [HLS.out, List.take_length]
   clear hL HLS
   obtain ⟨A, c, rfl, _⟩ := hO.form sh_len
   have HOO := hide hO
   clear hO
   go_upto_region 8 with (refine wpList_store_at rfl 34 _ _ rfl (.slice A _ c) hb rfl rfl (by kernel_rfl) rfl (by simp) rfl ?_; intro W5 hb5 hc5)
   obtain ⟨v2, hv2⟩ : ∃ v2 : RV, v2 = { v with Ai := A, ni := ls.length, ci := c } := ⟨_, rfl⟩
   have HV2 := hide hv2
   have HO5 : Hid (Own W5 base 93 9 SH.enc (.slice A _ c) _) := HOO.out.chgN hc5 fun k hk he => by have := own_base HOO.out k hk; omega
   replace hr := hr.chg1 hc5 (by omega)
   have hb5' : Blk W5 w.heap.size 38 ↑v2 := by rw [hv2]; exact hb5
   have HB : Hid (Below w.heap.size w W5) := HW.out.trans ((hB.mono HW.out.size).trans (hc5.below1 (B := w.heap.size) (Nat.le_trans HW.out.size hB.size) (Nat.le_refl _)))
   clear hv2 hb5 hc5 hb hB
   try dsimp only [Act.put]
   have hb := hb5'
   clear hb5'
   obtain ⟨c0, c1, c2, c3, c4, c5, c6, c7, c8⟩ := hb.all9
   go_wp2_with (refine wpList_store_blk rfl 38 _ _ rfl ↑v2 hr rfl rfl (by kernel_rfl) rfl (by simp [Value.oneCell']) ?_; intro W9 hr9 hc9; obtain ⟨q0, q1, q2, q3, q4, q5, q6, q7, q8⟩ := hr9.all9)
   have hB9 := HB.out.trans (hc9.below1 (B := w.heap.size) HB.out.size (by omega))
   refine bodyPost_ret (v := .agg ↑v2) (by simp [results, Tryz.results61, go_sem, q0, q1, q2, q3, q4, q5, q6, q7, q8]) rfl ?_
   have hO9 := HO5.out.chgN hc9 fun k hk he => by have := own_base HO5.out k hk; omega
   have hI9 : RsIn W9 P ls (r.without id).items := by rw [← HLL.out]; exact (HII.out.filt fun k => !decide (k = id)).below hB9
   exact ⟨v2, rfl, by rw [HV2.out]; exact HH.out.put_items hB9 HPP.out hI9.len (hO9.slc sh_len) hI9 (hO9.from_ (by omega)), hB9⟩
set_option maxRecDepth 100000 in
set_option maxHeartbeats 4000000 in
theorem dropped_any (v : RV) (r : RS) (P : Nat → Prop) (id : Int) (w : World) (h : RAt w P v r) (hP : ∀ k, P k → k < w.heap.size) (hl : r.pieces.length ≤ 1000000) :
  Calls Tryz.prog 59 #[.agg ↑v, id] w (StPost P (r.dropped id) w) := by
 have HH := hide h
 have HPP := hide hP
 obtain ⟨hs, hhs⟩ := nm_ r.pieces
 have hL := h.pieces
 have hnl : v.np = hs.length := by rw [← hhs]; exact h.np
 have hhl : hs.length ≤ 1000000 := by rw [← hhs]; exact hl
 rw [hhs] at hL
 have HHS := hide hhs
 clear h hP hl hhs
 have HNL := hide hnl
 clear hnl
 obtain ⟨hb, hr, hal, hsz⟩ := box2 w 38 38 ↑v ↑zrA
 have HW := hide hal
 go_enter Tryz.func59, Tryz.ntmps59
 go_upto_region 1 with fail
 generalize (w.alloc (.cells ↑v 38)).alloc (.cells ↑zrA 38) = W at *
 replace hL := Slc.on hL hal
 clear hal
 obtain ⟨base, hbase⟩ := nm_ W.heap.size
 have hbw : w.heap.size + 2 = base := by omega
 have HBS := hide hbase
 clear hsz hbase
 go_upto_region 3 with fail
 go_loopw [5, 6] (fun y z wr => ∃ (i : Nat) (ls : List Piece), z = .int .i64 i ∧ i ≤ hs.length ∧ ls.length ≤ i ∧ Hid (ls = (hs.take i).filter fun h => !decide (h.id = id)) ∧ Own wr base 96 8 Piece.enc y ls ∧ Below W.heap.size W wr) (fun _ z _ => hs.length - (intOf z).toNat)
 case atStart => exact ⟨0, [], rfl, Nat.zero_le _, Nat.le_refl _, rfl, Own.nil_, Below.refl _ _⟩
 case round =>
  obtain ⟨W2, rfl⟩ := is_ wr
  obtain ⟨i, ls, rfl, hi, hll, HLS, hO, hB⟩ := hrel
  replace hb := hb.below hB hb.lt
  replace hr := hr.below hB hr.lt
  replace hL := Slc.on hL hB
  have hBs : base ≤ W2.heap.size := by rw [← HBS.out]; exact hB.size
  have cX := hb.cell_ 7 (v := .slice v.Ap v.np v.cp) rfl
  rw [HNL.out] at cX
  by_cases hlt : i < hs.length
  ·obtain ⟨x, hx⟩ : ∃ x, hs[i]? = some x := ⟨_, List.getElem?_eq_getElem hlt⟩
   obtain ⟨b1, o1, hA1, _, d0, d1, d2, d3, d4, d5, d6, d7⟩ := pce_at hL hx
   have hii : (i : Int) < (hs.length : Int) := by omega
   have ei := wsuc i (by omega)
   have HT0 := hide (filter_take hx fun h => !decide (h.id = id))
   rw [hA1] at cX
   clear hx hA1 hL hb hr
   by_cases h1 : x.id = id
   ·have HT : Hid (ls = (hs.take (i + 1)).filter fun h => !decide (h.id = id)) := by show _ = _; rw [HT0.out, if_neg (by simp [h1]), List.append_nil]; exact HLS.out
    clear HT0 HLS
    go_wp2_with fail
    clear cX
    go_roundw
    case rel => exact ⟨i + 1, ls, by go_num, by omega, by omega, HT, hO, hB⟩
    case measure => simp [intOf]; omega
   ·have HT : Hid (ls ++ [x] = (hs.take (i + 1)).filter fun h => !decide (h.id = id)) := by show _ = _; rw [HT0.out, if_pos (by simp [h1]), HLS.out]
    clear HT0 HLS
    go_wp2_with (at_builtin; refine wpList_app_own (base := base) (f := Piece.enc) (ys := [x]) _ _ rfl rfl et_piece (hO.alloc _) rfl rfl ((Blk.new W2 96 ↑x).slc1 rfl) rfl pce_len pce_one (by simp <;> omega) (by simp <;> omega) ?_; intro v6 W6 hO6 hb6 hg6)
    have hal := (Below.refl W2.heap.size W2).alloc (Nat.le_refl _) (.cells ↑x 96)
    replace hB := (hB.trans (hal.mono hB.size)).trans (by rw [← HBS.out] at hb6; exact hb6)
    clear hO hal hb6 hg6 cX d0 d1 d2 d3 d4 d5 d6 d7
    go_roundw
    case rel => exact ⟨i + 1, ls ++ [x], by go_num, by omega, by simp; omega, HT, hO6, hB⟩
    case measure => simp [intOf]; omega
  ·obtain rfl : i = hs.length := by omega
   have HLL : Hid ((hs.filter fun h => !decide (h.id = id)) = ls) := by show _ = _; rw [HLS.out, List.take_length]
   clear hL HLS
   obtain ⟨A, c, rfl, _⟩ := hO.form pce_len
   have HOO := hide hO
   clear hO
   go_upto_region 8 with (refine wpList_store_at rfl 35 _ _ rfl (.slice A _ c) hb rfl rfl (by kernel_rfl) rfl (by simp) rfl ?_; intro W5 hb5 hc5)
   obtain ⟨v2, hv2⟩ : ∃ v2 : RV, v2 = { v with Ap := A, np := ls.length, cp := c } := ⟨_, rfl⟩
   have HV2 := hide hv2
   have HO5 : Hid (Own W5 base 96 8 Piece.enc (.slice A _ c) _) := HOO.out.chgN hc5 fun k hk he => by have := own_base HOO.out k hk; omega
   replace hr := hr.chg1 hc5 (by omega)
   have hb5' : Blk W5 w.heap.size 38 ↑v2 := by rw [hv2]; exact hb5
   have HB : Hid (Below w.heap.size w W5) := HW.out.trans ((hB.mono HW.out.size).trans (hc5.below1 (B := w.heap.size) (Nat.le_trans HW.out.size hB.size) (Nat.le_refl _)))
   clear hv2 hb5 hc5 hb hB
   try dsimp only [Act.put]
   have hb := hb5'
   clear hb5'
   obtain ⟨c0, c1, c2, c3, c4, c5, c6, c7, c8⟩ := hb.all9
   go_wp2_with (refine wpList_store_blk rfl 38 _ _ rfl ↑v2 hr rfl rfl (by kernel_rfl) rfl (by simp [Value.oneCell']) ?_; intro W9 hr9 hc9; obtain ⟨q0, q1, q2, q3, q4, q5, q6, q7, q8⟩ := hr9.all9)
   have hB9 := HB.out.trans (hc9.below1 (B := w.heap.size) HB.out.size (by omega))
   refine bodyPost_ret (v := .agg ↑v2) (by simp [results, Tryz.results59, go_sem, q0, q1, q2, q3, q4, q5, q6, q7, q8]) rfl ?_
   have hO9 := HO5.out.chgN hc9 fun k hk he => by have := own_base HO5.out k hk; omega
   have hI9 : ls = (r.dropped id).pieces := by rw [← HLL.out, ← HHS.out]; rfl
   exact ⟨v2, rfl, by rw [HV2.out]; exact HH.out.put_pieces hB9 HPP.out (by rw [hI9]; rfl) (by have := hO9.slc pce_len; rw [hI9] at this; exact this) (hO9.from_ (by omega)), hB9⟩
end Go.Proofs.YtehlbomkldnalaaGreat

/- The reference's with: the walk. -/
namespace Go.Proofs.YtehlbomkldnalaaGreat
open Go Go.RowKit
theorem shh_in {w : World} {B b off : Nat} {hs : List SH} {i : Nat} {x : SH} (h : Slc SH.enc 9 w B (some ⟨b, off, none⟩) hs) (hi : hs[i]? = some x) :
  w.cell? ⟨b, off + i * 9, none⟩ = some (.int .i64 x.id) ∧ w.cell? ⟨b, off + i * 9 + 1, none⟩ = some (.int .i64 x.root) ∧ w.cell? ⟨b, off + i * 9 + 2, none⟩ = some (.int .i64 x.gr) ∧ w.cell? ⟨b, off + i * 9 + 3, none⟩ = some (.int .i64 x.co) ∧ w.cell? ⟨b, off + i * 9 + 4, none⟩ = some (.int .i64 x.lo) ∧
  w.cell? ⟨b, off + i * 9 + 5, none⟩ = some (.int .i64 x.ma) ∧ w.cell? ⟨b, off + i * 9 + 6, none⟩ = some (.int .i64 x.wi) ∧ w.cell? ⟨b, off + i * 9 + 7, none⟩ = some (.int .i64 x.le) ∧ w.cell? ⟨b, off + i * 9 + 8, none⟩ = some (.slice x.A x.n x.c) := by
 obtain ⟨b', off', hA, _, h0⟩ := shh_at h hi
 injection hA with hA
 injection hA with h1 h2
 subst h1 h2
 exact h0
theorem any_take {α : Type} {l : List α} {i : Nat} {x : α} (h : l[i]? = some x) (f : α → Bool) : (l.take (i + 1)).any f = ((l.take i).any f || f x) := by
 rw [take_snoc h, List.any_append]; simp
set_option maxRecDepth 100000 in
set_option maxHeartbeats 4000000 in
theorem with_any (v : RV) (r : RS) (P : Nat → Prop) (y : Sheet) (g : SH) (w : World) (h : RAt w P v r) (hg : RsV w P y g) (hP : ∀ k, P k → k < w.heap.size) (hl : r.items.length ≤ 1000000) :
  Calls Tryz.prog 51 #[.agg ↑v, .agg ↑g] w (StPost P (r.withI y) w) := by
 have HH := hide h
 have HPP := hide hP
 have HG := hide hg
 obtain ⟨hs, hL, hI⟩ := h.items
 have hnl : v.ni = hs.length := h.ni.trans hI.len.symm
 have hhl : hs.length ≤ 1000000 := by rw [hI.len]; exact hl
 have HII := hide hI
 clear hI h hP hl hg
 have HNL := hide hnl
 clear hnl
 obtain ⟨hbx, hgx, hr0, hal, hsz⟩ := box3 w 38 93 38 ↑v ↑g ↑zrA
 have HW := hide hal
 go_enter Tryz.func51, Tryz.ntmps51
 go_upto_region 1 with fail
 generalize ((w.alloc (.cells ↑v 38)).alloc (.cells ↑g 93)).alloc (.cells ↑zrA 38) = W0 at *
 have HL0 : Hid (Slc SH.enc 9 W0 W0.heap.size v.Ai hs) := Slc.on hL hal
 have HBX := hide hbx
 have HGX := hide hgx
 have HR0 := hide hr0
 clear hal hL hbx hgx hr0
 obtain ⟨base, hbase⟩ := nm_ W0.heap.size
 have hbw : w.heap.size + 3 = base := by omega
 have HBS := hide hbase
 clear hsz hbase
 go_upto_region 4 with fail
 go_loopw [5, 6, 7] (fun y q z wr => ∃ (i : Nat) (b : Bool) (ls : List SH), z = .int .i64 i ∧ q = .bool b ∧ i ≤ hs.length ∧ ls.length ≤ i + 1 ∧ Hid (((hs.take i).any fun y : SH => decide (g.id < y.id)) = b) ∧ Hid (ls = insAt (fun y : SH => decide (g.id < y.id)) g (hs.take i)) ∧ Own wr base 93 9 SH.enc y ls ∧ Below W0.heap.size W0 wr) (fun _ _ z _ => hs.length - (intOf z).toNat)
 case atStart => exact ⟨0, false, [], rfl, rfl, Nat.zero_le _, Nat.zero_le _, rfl, rfl, Own.nil_, Below.refl _ _⟩
 case round =>
  obtain ⟨W, rfl⟩ := is_ wr
  obtain ⟨i, b, ls, rfl, rfl, hi, hll, HAN, HLS, hO, hB⟩ := hrel
  have hBs : base ≤ W.heap.size := by rw [← HBS.out]; exact hB.size
  by_cases hlt : i < hs.length
  ·obtain ⟨x, hx⟩ : ∃ x, hs[i]? = some x := ⟨_, List.getElem?_eq_getElem hlt⟩
   obtain ⟨b1, o1, hA1, _, d0, d1, d2, d3, d4, d5, d6, d7, d8⟩ := shh_at (HL0.out.on hB) hx
   have hii : (i : Int) < (hs.length : Int) := by omega
   have ei := wsuc i (by omega)
   have HX := hide hx
   have HA1 := hide hA1
   have c6 := (HBX.out.below hB HBX.out.lt).cell_ 6 (v := .slice v.Ai v.ni v.ci) rfl
   rw [HNL.out, HA1.out] at c6
   have e0 := (HGX.out.below hB HGX.out.lt).cell_ 0 (v := g.id) rfl
   have HT0 := hide (any_take hx fun y : SH => decide (g.id < y.id))
   have HTK := hide (take_snoc hx)
   clear hx hA1 d1 d2 d3 d4 d5 d6 d7 d8
   cases b with
   | true =>
    have HA2 : Hid (((hs.take (i + 1)).any fun y : SH => decide (g.id < y.id)) = true) := by show _ = _; rw [HT0.out, HAN.out]; rfl
    have HS2 : Hid (ls ++ [x] = insAt (fun y : SH => decide (g.id < y.id)) g (hs.take (i + 1))) := by show _ = _; rw [HTK.out, insAt_on HAN.out, HLS.out]
    have hll2 : ls.length ≤ 2000000 := by omega
    go_wp2_with fail
    refine wp_region_q (by kernel_rfl) (by kernel_rfl) ?_
    dsimp only
    have y_c6 := Since.cell c6
    have y_d0 := Since.cell d0
    have y_e0 := Since.cell e0
    repeat (go_big_quiet_step ((fail)))
    refine wpQuiet_nil ?_
    rintro W ⟨⟨_, hb⟩, rfl⟩
    try dsimp only at hb ⊢
    replace c6 := sat y_c6 hb
    replace d0 := sat y_d0 hb
    replace e0 := sat y_e0 hb
    clear y_c6 y_d0 y_e0
    replace hB := Below.trans hB (Below.mono hb (Below.size hB))
    replace hO := hO.below hb
    clear hb
    clear c6 d0 e0
    have hnx := HL0.out.on hB
    rw [HA1.out] at hnx
    obtain ⟨d0, d1, d2, d3, d4, d5, d6, d7, d8⟩ := shh_in hnx HX.out
    have c6 := (HBX.out.below hB HBX.out.lt).cell_ 6 (v := .slice v.Ai v.ni v.ci) rfl
    rw [HNL.out, HA1.out] at c6
    clear hnx
    go_wp2_with (at_builtin; refine wpList_app_own (base := base) (f := SH.enc) (ys := [x]) _ _ rfl rfl et_sheet (hO.alloc _) rfl rfl ((Blk.new W 93 ↑x).slc1 rfl) rfl sh_len sh_one (by simp <;> omega) (by have := hB.size; rw [HBS.out] at this; simp <;> omega) ?_; intro v6 W6 hO6 hb6 hg6)
    have hal := (Below.refl W.heap.size W).alloc (Nat.le_refl _) (.cells ↑x 93)
    replace hB := (hB.trans (hal.mono hB.size)).trans (by rw [← HBS.out] at hb6; exact hb6)
    clear hO hal hb6 hg6 c6 d0 d1 d2 d3 d4 d5 d6 d7 d8
    go_roundw
    case rel => exact ⟨i + 1, true, ls ++ [x], by go_num, rfl, by omega, by simp; omega, HA2, HS2, hO6, hB⟩
    case measure => simp [intOf]; omega
   | false =>
    by_cases hgt : g.id < x.id
    ·have HA2 : Hid (((hs.take (i + 1)).any fun y : SH => decide (g.id < y.id)) = true) := by show _ = _; rw [HT0.out]; simp [hgt]
     have HS2 : Hid (ls ++ [g] ++ [x] = insAt (fun y : SH => decide (g.id < y.id)) g (hs.take (i + 1))) := by
      show _ = _
      have hl0 : ls = hs.take i := by rw [HLS.out]; unfold insAt; rw [HAN.out]; rfl
      rw [HTK.out, insAt_here HAN.out (by simp [hgt]), hl0]
     have hlt2 : ls.length ≤ i := by
      have hl0 : ls = hs.take i := by rw [HLS.out]; unfold insAt; rw [HAN.out]; rfl
      rw [hl0, List.length_take]; omega
     have hdd : decide (g.id < x.id) = true := by simp [hgt]
     go_wp2_with fail
     refine wp_region_q (by kernel_rfl) (by kernel_rfl) ?_
     dsimp only
     have y_c6 := Since.cell c6
     have y_d0 := Since.cell d0
     have y_e0 := Since.cell e0
     repeat (go_big_quiet_step ((fail)))
     refine wpQuiet_nil ?_
     rintro W ⟨⟨_, hb⟩, rfl⟩
     try dsimp only at hb ⊢
     replace c6 := sat y_c6 hb
     replace d0 := sat y_d0 hb
     replace e0 := sat y_e0 hb
     clear y_c6 y_d0 y_e0
     replace hB := Below.trans hB (Below.mono hb (Below.size hB))
     replace hO := hO.below hb
     clear hb
     clear c6 d0 e0 hdd
     have hgx := HGX.out.below hB HGX.out.lt
     obtain ⟨e0, e1, e2, e3, e4, e5, e6, e7, e8⟩ := hgx.all9
     clear hgx
     go_upto_region 8 with (at_builtin; refine wpList_app_own (base := base) (f := SH.enc) (ys := [g]) _ _ rfl rfl et_sheet (hO.alloc _) rfl rfl ((Blk.new W 93 ↑g).slc1 rfl) rfl sh_len sh_one (by simp <;> omega) (by have := hB.size; rw [HBS.out] at this; simp <;> omega) ?_; intro v6 W6 hO6 hb6 hg6)
     have hal := (Below.refl W.heap.size W).alloc (Nat.le_refl _) (.cells ↑g 93)
     replace hB := (hB.trans (hal.mono hB.size)).trans (by rw [← HBS.out] at hb6; exact hb6)
     clear hO hal hb6 hg6 e0 e1 e2 e3 e4 e5 e6 e7 e8
     obtain ⟨W, rfl⟩ := is_ W6
     obtain ⟨l2, hl2⟩ := nm_ (ls ++ [g])
     rw [hl2] at hO6
     have hll2 : l2.length ≤ 2000000 := by rw [← hl2]; simp; omega
     have hll3 : l2.length ≤ i + 1 := by rw [← hl2]; simp; omega
     have HL2 := hide hl2
     clear hl2
     have hO := hO6
     clear hO6
     have hnx := HL0.out.on hB
     rw [HA1.out] at hnx
     obtain ⟨d0, d1, d2, d3, d4, d5, d6, d7, d8⟩ := shh_in hnx HX.out
     have c6 := (HBX.out.below hB HBX.out.lt).cell_ 6 (v := .slice v.Ai v.ni v.ci) rfl
     rw [HNL.out, HA1.out] at c6
     clear hnx
     go_wp2_with (at_builtin; refine wpList_app_own (base := base) (f := SH.enc) (ys := [x]) _ _ rfl rfl et_sheet (hO.alloc _) rfl rfl ((Blk.new W 93 ↑x).slc1 rfl) rfl sh_len sh_one (by simp <;> omega) (by have := hB.size; rw [HBS.out] at this; simp <;> omega) ?_; intro v6 W6 hO6 hb6 hg6)
     have hal := (Below.refl W.heap.size W).alloc (Nat.le_refl _) (.cells ↑x 93)
     replace hB := (hB.trans (hal.mono hB.size)).trans (by rw [← HBS.out] at hb6; exact hb6)
     clear hO hal hb6 hg6 c6 d0 d1 d2 d3 d4 d5 d6 d7 d8
     go_roundw
     case rel => exact ⟨i + 1, true, l2 ++ [x], by go_num, rfl, by omega, by simp; omega, HA2, (by show _ = _; rw [← HS2.out, HL2.out] : Hid _), hO6, hB⟩
     case measure => simp [intOf]; omega
    ·have HA2 : Hid (((hs.take (i + 1)).any fun y : SH => decide (g.id < y.id)) = false) := by show _ = _; rw [HT0.out, HAN.out]; simp [hgt]
     have hl0 : ls = hs.take i := by rw [HLS.out]; unfold insAt; rw [HAN.out]; rfl
     have HS2 : Hid (ls ++ [x] = insAt (fun y : SH => decide (g.id < y.id)) g (hs.take (i + 1))) := by
      show _ = _
      rw [HTK.out, insAt_skip HAN.out (by simp [hgt]), hl0]
     have hlt2 : ls.length ≤ i := by rw [hl0, List.length_take]; omega
     clear hl0
     have hdd : decide (g.id < x.id) = false := by simp [hgt]
     go_wp2_with fail
     refine wp_region_q (by kernel_rfl) (by kernel_rfl) ?_
     dsimp only
     have y_c6 := Since.cell c6
     have y_d0 := Since.cell d0
     have y_e0 := Since.cell e0
     repeat (go_big_quiet_step ((fail)))
     refine wpQuiet_nil ?_
     rintro W ⟨⟨_, hb⟩, rfl⟩
     try dsimp only at hb ⊢
     replace c6 := sat y_c6 hb
     replace d0 := sat y_d0 hb
     replace e0 := sat y_e0 hb
     clear y_c6 y_d0 y_e0
     replace hB := Below.trans hB (Below.mono hb (Below.size hB))
     replace hO := hO.below hb
     clear hb
     clear c6 d0 e0 hdd
     have hnx := HL0.out.on hB
     rw [HA1.out] at hnx
     obtain ⟨d0, d1, d2, d3, d4, d5, d6, d7, d8⟩ := shh_in hnx HX.out
     have c6 := (HBX.out.below hB HBX.out.lt).cell_ 6 (v := .slice v.Ai v.ni v.ci) rfl
     rw [HNL.out, HA1.out] at c6
     clear hnx
     go_wp2_with (at_builtin; refine wpList_app_own (base := base) (f := SH.enc) (ys := [x]) _ _ rfl rfl et_sheet (hO.alloc _) rfl rfl ((Blk.new W 93 ↑x).slc1 rfl) rfl sh_len sh_one (by simp <;> omega) (by have := hB.size; rw [HBS.out] at this; simp <;> omega) ?_; intro v6 W6 hO6 hb6 hg6)
     have hal := (Below.refl W.heap.size W).alloc (Nat.le_refl _) (.cells ↑x 93)
     replace hB := (hB.trans (hal.mono hB.size)).trans (by rw [← HBS.out] at hb6; exact hb6)
     clear hO hal hb6 hg6 c6 d0 d1 d2 d3 d4 d5 d6 d7 d8
     go_roundw
     case rel => exact ⟨i + 1, false, ls ++ [x], by go_num, rfl, by omega, by simp; omega, HA2, HS2, hO6, hB⟩
     case measure => simp [intOf]; omega
  ·obtain rfl : i = hs.length := by omega
   have HAN2 : Hid ((hs.any fun y : SH => decide (g.id < y.id)) = b) := by show _ = _; rw [← HAN.out, List.take_length]
   have HLS2 : Hid (ls = insAt (fun y : SH => decide (g.id < y.id)) g hs) := by show _ = _; rw [HLS.out, List.take_length]
   clear HAN HLS
   cases b with
   | true =>
    have HE : Hid (ls = insG (fun y : SH => decide (g.id < y.id)) g hs) := by show _ = _; rw [HLS2.out, ← insAt_end, if_pos HAN2.out]
    have hb := HBX.out.below hB HBX.out.lt
    have c6 := hb.cell_ 6 (v := .slice v.Ai v.ni v.ci) rfl
    rw [HNL.out] at c6
    have hr := HR0.out.below hB HR0.out.lt
    obtain ⟨A, c, rfl, _⟩ := hO.form sh_len
    have HOO := hide hO
    clear hO
    go_upto_region 12 with (refine wpList_store_at rfl 34 _ _ rfl (.slice A _ c) hb rfl rfl (by kernel_rfl) rfl (by simp) rfl ?_; intro W5 hb5 hc5)
    obtain ⟨v2, hv2⟩ : ∃ v2 : RV, v2 = { v with Ai := A, ni := ls.length, ci := c } := ⟨_, rfl⟩
    have HV2 := hide hv2
    have HO5 : Hid (Own W5 base 93 9 SH.enc (.slice A _ c) _) := HOO.out.chgN hc5 fun k hk he => by have := own_base HOO.out k hk; omega
    replace hr := hr.chg1 hc5 (by omega)
    have hb5' : Blk W5 w.heap.size 38 ↑v2 := by rw [hv2]; exact hb5
    have HB : Hid (Below w.heap.size w W5) := HW.out.trans ((hB.mono HW.out.size).trans (hc5.below1 (B := w.heap.size) (Nat.le_trans HW.out.size hB.size) (Nat.le_refl _)))
    clear hv2 hb5 hc5 hb hB
    try dsimp only [Act.put]
    have hb := hb5'
    clear hb5'
    obtain ⟨c0, c1, c2, c3, c4, c5, c6, c7, c8⟩ := hb.all9
    go_wp2_with (refine wpList_store_blk rfl 38 _ _ rfl ↑v2 hr rfl rfl (by kernel_rfl) rfl (by simp [Value.oneCell']) ?_; intro W9 hr9 hc9; obtain ⟨q0, q1, q2, q3, q4, q5, q6, q7, q8⟩ := hr9.all9)
    have hB9 := HB.out.trans (hc9.below1 (B := w.heap.size) HB.out.size (by omega))
    refine bodyPost_ret (v := .agg ↑v2) (by simp [results, Tryz.results51, go_sem, q0, q1, q2, q3, q4, q5, q6, q7, q8]) rfl ?_
    have hO9 := HO5.out.chgN hc9 fun k hk he => by have := own_base HO5.out k hk; omega
    have hI9 : RsIn W9 P ls (r.withI y).items := by rw [HE.out]; exact (HII.out.ins HG.out).below hB9
    exact ⟨v2, rfl, by rw [HV2.out]; exact HH.out.put_items hB9 HPP.out hI9.len (hO9.slc sh_len) hI9 (hO9.from_ (by omega)), hB9⟩
   | false =>
    have HE : Hid (ls ++ [g] = insG (fun y : SH => decide (g.id < y.id)) g hs) := by show _ = _; rw [HLS2.out, ← insAt_end, if_neg (by rw [HAN2.out]; decide)]
    have hgx := HGX.out.below hB HGX.out.lt
    obtain ⟨e0, e1, e2, e3, e4, e5, e6, e7, e8⟩ := hgx.all9
    have hbx := HBX.out.below hB HBX.out.lt
    have c6 := hbx.cell_ 6 (v := .slice v.Ai v.ni v.ci) rfl
    rw [HNL.out] at c6
    clear hgx hbx
    go_upto_region 11 with (at_builtin; refine wpList_app_own (base := base) (f := SH.enc) (ys := [g]) _ _ rfl rfl et_sheet (hO.alloc _) rfl rfl ((Blk.new W 93 ↑g).slc1 rfl) rfl sh_len sh_one (by simp <;> omega) (by have := hB.size; rw [HBS.out] at this; simp <;> omega) ?_; intro v6 W6 hO6 hb6 hg6)
    have hal := (Below.refl W.heap.size W).alloc (Nat.le_refl _) (.cells ↑g 93)
    replace hB := (hB.trans (hal.mono hB.size)).trans (by rw [← HBS.out] at hb6; exact hb6)
    clear hO hal hb6 hg6 e0 e1 e2 e3 e4 e5 e6 e7 e8 c6
    obtain ⟨W, rfl⟩ := is_ W6
    obtain ⟨l2, hl2⟩ := nm_ (ls ++ [g])
    rw [hl2] at hO6 HE
    clear hl2 HLS2
    obtain ⟨ls, rfl⟩ := is_ l2
    have hO := hO6
    clear hO6
    have hb := HBX.out.below hB HBX.out.lt
    have hr := HR0.out.below hB HR0.out.lt
    obtain ⟨A, c, rfl, _⟩ := hO.form sh_len
    have HOO := hide hO
    clear hO
    go_upto_region 12 with (refine wpList_store_at rfl 34 _ _ rfl (.slice A _ c) hb rfl rfl (by kernel_rfl) rfl (by simp) rfl ?_; intro W5 hb5 hc5)
    obtain ⟨v2, hv2⟩ : ∃ v2 : RV, v2 = { v with Ai := A, ni := ls.length, ci := c } := ⟨_, rfl⟩
    have HV2 := hide hv2
    have HO5 : Hid (Own W5 base 93 9 SH.enc (.slice A _ c) _) := HOO.out.chgN hc5 fun k hk he => by have := own_base HOO.out k hk; omega
    replace hr := hr.chg1 hc5 (by omega)
    have hb5' : Blk W5 w.heap.size 38 ↑v2 := by rw [hv2]; exact hb5
    have HB : Hid (Below w.heap.size w W5) := HW.out.trans ((hB.mono HW.out.size).trans (hc5.below1 (B := w.heap.size) (Nat.le_trans HW.out.size hB.size) (Nat.le_refl _)))
    clear hv2 hb5 hc5 hb hB
    try dsimp only [Act.put]
    have hb := hb5'
    clear hb5'
    obtain ⟨c0, c1, c2, c3, c4, c5, c6, c7, c8⟩ := hb.all9
    go_wp2_with (refine wpList_store_blk rfl 38 _ _ rfl ↑v2 hr rfl rfl (by kernel_rfl) rfl (by simp [Value.oneCell']) ?_; intro W9 hr9 hc9; obtain ⟨q0, q1, q2, q3, q4, q5, q6, q7, q8⟩ := hr9.all9)
    have hB9 := HB.out.trans (hc9.below1 (B := w.heap.size) HB.out.size (by omega))
    refine bodyPost_ret (v := .agg ↑v2) (by simp [results, Tryz.results51, go_sem, q0, q1, q2, q3, q4, q5, q6, q7, q8]) rfl ?_
    have hO9 := HO5.out.chgN hc9 fun k hk he => by have := own_base HO5.out k hk; omega
    have hI9 : RsIn W9 P ls (r.withI y).items := by rw [HE.out]; exact (HII.out.ins HG.out).below hB9
    exact ⟨v2, rfl, by rw [HV2.out]; exact HH.out.put_items hB9 HPP.out hI9.len (hO9.slc sh_len) hI9 (hO9.from_ (by omega)), hB9⟩
end Go.Proofs.YtehlbomkldnalaaGreat

/- The reference's linked, front, behind, smaller, old, needs, Put, Area: the walks. -/
namespace Go.Proofs.YtehlbomkldnalaaGreat
open Go Go.RowKit
theorem two_apps {W W6 W7 : World} {o1 o2 : Obj} (hb6 : Below W.heap.size (W.alloc o1) W6) (hb7 : Below W.heap.size (W6.alloc o2) W7) : Below W.heap.size W W7 := by
 have h1 : Below W.heap.size W W6 := ((Below.refl W.heap.size W).alloc (Nat.le_refl _) o1).trans hb6
 exact (h1.trans (((Below.refl W6.heap.size W6).alloc (Nat.le_refl _) o2).mono h1.size)).trans hb7
set_option maxRecDepth 100000 in
set_option maxHeartbeats 4000000 in
theorem linked_any (v : RV) (r : RS) (P : Nat → Prop) (id u : Int) (w : World) (h : RAt w P v r) (hP : ∀ k, P k → k < w.heap.size) (hl : r.links.length ≤ 1000000) :
  Calls Tryz.prog 52 #[.agg ↑v, id, u] w (StPost P (r.linked id u) w) := by
 have HH := hide h
 have HPP := hide hP
 have HNL := hide h.nl
 have hnb : v.nl ≤ 1000000 := by rw [h.nl]; exact hl
 have hL := h.links
 clear h hP
 obtain ⟨hb, hr, hal, hsz⟩ := box2 w 38 38 ↑v ↑zrA
 have HW := hide hal
 go_enter Tryz.func52, Tryz.ntmps52
 go_upto_region 1 with fail
 generalize (w.alloc (.cells ↑v 38)).alloc (.cells ↑zrA 38) = W at *
 have HL : Hid (Slc lkEnc 2 W W.heap.size v.Al r.links) := Slc.on hL hal
 clear hal hL
 have c8 := (hb.alloc (.cells #[] 135)).cell_ 8 (v := .slice v.Al v.nl v.cl) rfl
 have HBX := hide hb
 have HRX := hide hr
 have HSZ := hide hsz
 clear hb hr hsz
 go_upto_region 2 with (first | (at_builtin; first | (refine wpList_app_own (base := W.heap.size) (f := lkEnc) (xs := []) (ys := r.links) (v := .slice (some ⟨W.heap.size, 0, none⟩) 0 0) _ _ rfl rfl et_link (Own.empty_ (Blk.new W 135 #[]) (Nat.le_refl _)) rfl rfl (Slc.on HL.out ((Below.refl W.heap.size W).alloc (Nat.le_refl _) _)) HNL.out.symm lk_len lk_one (by simp <;> omega) (by simp) ?_; intro v6 W6 hO6 hb6 hg6) | (refine wpList_app_own (base := W.heap.size) (f := lkEnc) (ys := [(id, u)]) _ _ rfl rfl et_link (hO6.alloc _) rfl rfl ((Blk.new W6 135 #[id, u]).slc1 (y := (id, u)) (f := lkEnc) rfl) rfl lk_len lk_one (by simp <;> omega) (by have := hb6.size; simp at this ⊢; omega) ?_; intro v7 W7 hO7 hb7 hg7; obtain ⟨A, c, rfl, _⟩ := hO7.form lk_len)) | (refine wpList_store_at rfl 36 _ _ rfl (.slice A _ c) (HBX.out.below (two_apps hb6 hb7) HBX.out.lt) rfl rfl (by kernel_rfl) rfl (by simp) rfl ?_; intro W5 hb5 hc5))
 have hb7' := two_apps hb6 hb7
 obtain ⟨v2, hv2⟩ : ∃ v2 : RV, v2 = { v with Al := A, nl := (r.linked id u).links.length, cl := c } := ⟨_, rfl⟩
 have HV2 := hide hv2
 have hO7' : Own W7 W.heap.size 135 2 lkEnc (.slice A (r.linked id u).links.length c) (r.linked id u).links := hO7
 have HO5 : Hid (Own W5 W.heap.size 135 2 lkEnc (.slice A (r.linked id u).links.length c) (r.linked id u).links) := hO7'.chgN hc5 fun k hk he => by have := own_base hO7' k hk; have := HSZ.out; omega
 have hr := (HRX.out.below hb7' HRX.out.lt).chg1 hc5 (by omega)
 have hb5' : Blk W5 w.heap.size 38 ↑v2 := by
  rw [hv2]
  have : (r.linked id u).links.length = r.links.length + 1 := by unfold RS.linked; simp
  dsimp only
  rw [this]
  have h5 := hb5
  simp at h5 ⊢
  exact h5
 have HB : Hid (Below w.heap.size w W5) := HW.out.trans ((hb7'.mono HW.out.size).trans (hc5.below1 (B := w.heap.size) (by have := hb7'.size; have := HSZ.out; omega) (Nat.le_refl _)))
 clear hv2 hb5 hc5 hb6 hb7 hg6 hg7 hO6 hO7 hO7' hb7' c8
 try dsimp only [Act.put]
 have hb := hb5'
 clear hb5'
 obtain ⟨c0, c1, c2, c3, c4, c5, c6, c7, c8⟩ := hb.all9
 go_wp2_with (refine wpList_store_blk rfl 38 _ _ rfl ↑v2 hr rfl rfl (by kernel_rfl) rfl (by simp [Value.oneCell']) ?_; intro W9 hr9 hc9; obtain ⟨q0, q1, q2, q3, q4, q5, q6, q7, q8⟩ := hr9.all9)
 have hB9 := HB.out.trans (hc9.below1 (B := w.heap.size) HB.out.size (by omega))
 refine bodyPost_ret (v := .agg ↑v2) (by simp [results, Tryz.results52, go_sem, q0, q1, q2, q3, q4, q5, q6, q7, q8]) rfl ?_
 have hO9 := HO5.out.chgN hc9 fun k hk he => by have := own_base HO5.out k hk; have := HSZ.out; omega
 exact ⟨v2, rfl, by rw [HV2.out]; exact HH.out.put_links hB9 HPP.out rfl (hO9.slc lk_len) (hO9.from_ (by have := HSZ.out; omega)), hB9⟩
end Go.Proofs.YtehlbomkldnalaaGreat

/- The reference's front, behind, smaller, old, needs, Area: the walks. -/
namespace Go.Proofs.YtehlbomkldnalaaGreat
open Go Go.RowKit
theorem area_any (a b : Int) (w : World) (h : 0 ≤ a * b ∧ a * b ≤ 1000000000) : Calls Tryz.prog 71 #[a, b] w fun e w' => e = .returned (.int .i64 (a * b)) ∧ w = w' := by
 obtain ⟨p, hp⟩ := nm_ (a * b)
 have e1 : IntKind.i64.wrap (a * b) = p := by rw [hp]; rw [hp] at h; exact IntWalk.i64_in _ (by omega)
 rw [hp]
 clear hp h
 go_enter Tryz.func71, Tryz.ntmps71
 go_wp2_with fail
 go_ret
 exact ⟨rfl, rfl⟩
def lessH (a b : SH) : Bool := decide (a.wi < b.wi) || (decide (a.wi = b.wi) && (decide (a.le < b.le) || (decide (a.le = b.le) && decide (a.id < b.id))))
theorem lessH_eq {w w' : World} {P P' : Nat → Prop} {x y : Sheet} {g h : SH} (hx : RsV w P x g) (hy : RsV w' P' y h) : lessH g h = lessS x y := by
 obtain ⟨A, c, rfl, _⟩ := hx
 obtain ⟨A', c', rfl, _⟩ := hy
 rfl
set_option maxRecDepth 100000 in
set_option maxHeartbeats 2000000 in
theorem smaller_any (g h : SH) (w : World) {b : Bool} (hv : lessH g h = b) : Calls Tryz.prog 112 #[.agg ↑g, .agg ↑h] w fun e w' => e = .returned (.bool b) ∧ Below w.heap.size w w' := by
 obtain ⟨i1, r1, g1, c1, l1, m1, w1, n1, A1, k1, z1⟩ := g
 obtain ⟨i2, r2, g2, c2, l2, m2, w2, n2, A2, k2, z2⟩ := h
 have HV := hide hv
 clear hv
 dsimp only
 obtain ⟨hx, hy, hal, hsz⟩ := box2 w 93 93 #[i1, r1, g1, c1, l1, m1, w1, n1, .slice A1 k1 z1] #[i2, r2, g2, c2, l2, m2, w2, n2, .slice A2 k2 z2]
 go_enter Tryz.func112, Tryz.ntmps112
 go_upto_region 1 with fail
 generalize (w.alloc (.cells #[i1, r1, g1, c1, l1, m1, w1, n1, .slice A1 k1 z1] 93)).alloc (.cells #[i2, r2, g2, c2, l2, m2, w2, n2, .slice A2 k2 z2] 93) = W at *
 have x0 := hx.cell_ 0 (v := i1) rfl
 have x6 := hx.cell_ 6 (v := w1) rfl
 have x7 := hx.cell_ 7 (v := n1) rfl
 have y0 := hy.cell_ 0 (v := i2) rfl
 have y6 := hy.cell_ 6 (v := w2) rfl
 have y7 := hy.cell_ 7 (v := n2) rfl
 clear hx hy hsz
 unfold lessH at HV
 dsimp only at HV
 by_cases h1 : w1 = w2
 ·subst h1
  by_cases h2 : n1 = n2
  ·subst h2
   have HR : Hid (decide (i1 < i2) = b) := by show _ = _; rw [← HV.out]; simp
   go_wp2_with fail
   go_ret
   exact ⟨by rw [← HR.out]; rfl, hal⟩
  ·have HR : Hid (decide (n1 < n2) = b) := by show _ = _; rw [← HV.out]; simp [h2]
   go_wp2_with fail
   go_ret
   exact ⟨by rw [← HR.out]; rfl, hal⟩
 ·have HR : Hid (decide (w1 < w2) = b) := by show _ = _; rw [← HV.out]; simp [h1]
  go_wp2_with fail
  go_ret
  exact ⟨by rw [← HR.out]; rfl, hal⟩
set_option maxRecDepth 100000 in
set_option maxHeartbeats 2000000 in
theorem rold_any (v : RV) (x : SH) (day : Int) (w : World) (hg : 1 ≤ x.gr ∧ x.gr ≤ 3) (hm : 0 ≤ x.ma ∧ x.ma ≤ 100000) (hd : 0 ≤ day ∧ day ≤ 100000) {v0 : Bool} (hv : decide (lifeF ⟨v.mw, v.ml, v.l0, v.l1, v.l2⟩ x.gr < day - x.ma) = v0) :
  Calls Tryz.prog 63 #[.agg ↑v, .agg ↑x, day] w fun e w' => e = .returned (.bool v0) ∧ Below w.heap.size w w' := by
 have HV := hide hv
 clear hv
 obtain ⟨gr, hgr⟩ := nm_ x.gr
 rw [hgr] at hg HV
 obtain ⟨hx, hy, hal, hsz⟩ := box2 w 38 93 ↑v ↑x
 go_enter Tryz.func63, Tryz.ntmps63
 go_upto_region 1 with fail
 rw [hgr] at hx hy hal
 generalize (w.alloc (.cells ↑v 38)).alloc (.cells #[x.id, x.root, gr, x.co, x.lo, x.ma, x.wi, x.le, .slice x.A x.n x.c] 93) = W at *
 have c2 := hx.cell_ 2 (v := v.l0) rfl
 have c3 := hx.cell_ 3 (v := v.l1) rfl
 have c4 := hx.cell_ 4 (v := v.l2) rfl
 have x2 := hy.cell_ 2 (v := gr) rfl
 have x5 := hy.cell_ 5 (v := x.ma) rfl
 have e1 := IntWalk.i64_in (day - x.ma) (by omega)
 clear hgr hx hy hsz
 rcases (show gr = 1 ∨ gr = 2 ∨ gr = 3 by omega) with rfl | rfl | rfl
 ·have HV2 : Hid (v0 = decide (v.l0 < day - x.ma)) := by show _ = _; rw [← HV.out]; unfold lifeF; simp
  go_wp2_with fail
  refine wp_region_q (by kernel_rfl) (by kernel_rfl) ?_
  dsimp only
  obtain ⟨y_c2, y_c3, y_c4⟩ := Since.c3 c2 c3 c4
  obtain ⟨y_x2, y_x5⟩ := Since.c2 x2 x5
  repeat (go_big_quiet_step ((fail)))
  refine wpQuiet_nil ?_
  rintro W ⟨⟨_, hb⟩, rfl⟩
  try dsimp only at hb ⊢
  replace c2 := sat y_c2 hb
  replace c3 := sat y_c3 hb
  replace c4 := sat y_c4 hb
  replace x2 := sat y_x2 hb
  replace x5 := sat y_x5 hb
  clear y_c2 y_c3 y_c4 y_x2 y_x5
  replace hal := Below.trans hal (Below.mono hb (Below.size hal))
  clear hb
  clear c2 c3 c4 x2 x5
  go_wp2_with fail
  go_ret
  exact ⟨by rw [HV2.out]; rfl, hal⟩
 ·have HV2 : Hid (v0 = decide (v.l1 < day - x.ma)) := by show _ = _; rw [← HV.out]; unfold lifeF; simp
  go_wp2_with fail
  refine wp_region_q (by kernel_rfl) (by kernel_rfl) ?_
  dsimp only
  obtain ⟨y_c2, y_c3, y_c4⟩ := Since.c3 c2 c3 c4
  obtain ⟨y_x2, y_x5⟩ := Since.c2 x2 x5
  repeat (go_big_quiet_step ((fail)))
  refine wpQuiet_nil ?_
  rintro W ⟨⟨_, hb⟩, rfl⟩
  try dsimp only at hb ⊢
  replace c2 := sat y_c2 hb
  replace c3 := sat y_c3 hb
  replace c4 := sat y_c4 hb
  replace x2 := sat y_x2 hb
  replace x5 := sat y_x5 hb
  clear y_c2 y_c3 y_c4 y_x2 y_x5
  replace hal := Below.trans hal (Below.mono hb (Below.size hal))
  clear hb
  clear c2 c3 c4 x2 x5
  go_wp2_with fail
  go_ret
  exact ⟨by rw [HV2.out]; rfl, hal⟩
 ·have HV2 : Hid (v0 = decide (v.l2 < day - x.ma)) := by show _ = _; rw [← HV.out]; unfold lifeF; simp
  go_wp2_with fail
  refine wp_region_q (by kernel_rfl) (by kernel_rfl) ?_
  dsimp only
  obtain ⟨y_c2, y_c3, y_c4⟩ := Since.c3 c2 c3 c4
  obtain ⟨y_x2, y_x5⟩ := Since.c2 x2 x5
  repeat (go_big_quiet_step ((fail)))
  refine wpQuiet_nil ?_
  rintro W ⟨⟨_, hb⟩, rfl⟩
  try dsimp only at hb ⊢
  replace c2 := sat y_c2 hb
  replace c3 := sat y_c3 hb
  replace c4 := sat y_c4 hb
  replace x2 := sat y_x2 hb
  replace x5 := sat y_x5 hb
  clear y_c2 y_c3 y_c4 y_x2 y_x5
  replace hal := Below.trans hal (Below.mono hb (Below.size hal))
  clear hb
  clear c2 c3 c4 x2 x5
  go_wp2_with fail
  go_ret
  exact ⟨by rw [HV2.out]; rfl, hal⟩
theorem meas_is (g c x l : Int) (w : World) {b : Bool} (h : measB g c x l = b) : Calls Tryz.prog 73 #[g, c, x, l] w fun e w' => e = .returned (.bool b) ∧ w = w' := by
 subst h; exact measures_any g c x l w
theorem from_is (a n b : Int) (w : World) {v : Bool} (h : inB a n b = v) : Calls Tryz.prog 16 #[a, n, b] w fun e w' => e = .returned (.bool v) ∧ w = w' := by
 subst h; exact from_any a n b w
def needE (n : Need) (day : Int) : Int := if needB n day then 0 else 2
set_option maxRecDepth 100000 in
set_option maxHeartbeats 2000000 in
theorem needs_any (n : Need) (day : Int) (w : World) : Calls Tryz.prog 56 #[.agg ↑n, day] w fun e w' => e = .returned (.int .i64 (needE n day)) ∧ Below w.heap.size w w' := by
 have HV : Hid (needB n day = (measB n.grade n.colour n.width n.length && (inB 1 n.count 50 && inB 0 day 100000))) := by
  show _ = _
  unfold needB measB
  simp [Bool.and_assoc]
 obtain ⟨hx, hal, hsz⟩ := box1 w 45 ↑n
 go_enter Tryz.func56, Tryz.ntmps56
 go_upto_region 1 with fail
 generalize w.alloc (.cells ↑n 45) = W at *
 obtain ⟨y0, y1, y2, y3, y4⟩ := hx.all5
 clear hx hsz
 cases h1 : measB n.grade n.colour n.width n.length with
 | false =>
  have HR : Hid (needE n day = 2) := by show _ = _; unfold needE; rw [HV.out, h1]; rfl
  go_wp2_with fail
  refine (meas_is _ _ _ _ _ h1).mono ?_
  rintro e W' ⟨rfl, rfl⟩
  clear h1
  go_wp2_with fail
  go_ret
  exact ⟨by rw [HR.out]; rfl, hal⟩
 | true =>
  go_wp2_with fail
  refine (meas_is _ _ _ _ _ h1).mono ?_
  rintro e W' ⟨rfl, rfl⟩
  cases h2 : inB 1 n.count 50 with
  | false =>
   have HR : Hid (needE n day = 2) := by show _ = _; unfold needE; rw [HV.out, h1, h2]; rfl
   go_wp2_with fail
   refine (from_is _ _ _ _ h2).mono ?_
   rintro e W' ⟨rfl, rfl⟩
   clear h1 h2
   go_wp2_with fail
   go_ret
   exact ⟨by rw [HR.out]; rfl, hal⟩
  | true =>
   go_wp2_with fail
   refine (from_is _ _ _ _ h2).mono ?_
   rintro e W' ⟨rfl, rfl⟩
   cases h3 : inB 0 day 100000 with
   | false =>
    have HR : Hid (needE n day = 2) := by show _ = _; unfold needE; rw [HV.out, h1, h2, h3]; rfl
    go_wp2_with fail
    refine (from_is _ _ _ _ h3).mono ?_
    rintro e W' ⟨rfl, rfl⟩
    clear h1 h2 h3
    go_wp2_with fail
    go_ret
    exact ⟨by rw [HR.out]; rfl, hal⟩
   | true =>
    have HR : Hid (needE n day = 0) := by show _ = _; unfold needE; rw [HV.out, h1, h2, h3]; rfl
    go_wp2_with fail
    refine (from_is _ _ _ _ h3).mono ?_
    rintro e W' ⟨rfl, rfl⟩
    clear h1 h2 h3
    go_wp2_with fail
    go_ret
    exact ⟨by rw [HR.out]; rfl, hal⟩
set_option maxRecDepth 100000 in
set_option maxHeartbeats 2000000 in
theorem front_any (A : Option Addr) (c : Nat) (fs : List Pt) (p : Int) (w : World) (hS : Slc Pt.enc 2 w w.heap.size A fs) (hfl : fs.length ≤ 100000) :
  Calls Tryz.prog 92 #[.slice A fs.length c, p] w (ClonePost 57 Pt.enc 2 (frontR fs p) w) := by
 go_enter Tryz.func92, Tryz.ntmps92
 go_upto_region 3 with fail
 go_loopw [5, 6] (fun v z wr => ∃ (i : Nat) (ls : List Pt), z = .int .i64 i ∧ i ≤ fs.length ∧ ls.length ≤ i ∧ Hid (ls = frontR (fs.take i) p) ∧ Own wr w.heap.size 57 2 Pt.enc v ls ∧ Below w.heap.size w wr) (fun _ z _ => fs.length - (intOf z).toNat)
 case atStart => exact ⟨0, [], rfl, Nat.zero_le _, Nat.zero_le _, rfl, Own.nil_, Below.refl _ _⟩
 case round =>
  obtain ⟨W, rfl⟩ := is_ wr
  obtain ⟨i, ls, rfl, hi, hll, HL, hO, hB⟩ := hrel
  have hBs := hB.size
  by_cases hlt : i < fs.length
  ·obtain ⟨xa, xb, bF, oF, hx, hA, hbF, d0, d1⟩ := pts_at (hS.below hB) hlt
   have hii : (i : Int) < (fs.length : Int) := by omega
   have ei := wsuc i (by omega)
   have HT0 := hide (filter_take hx fun f => decide (f.b ≤ p))
   subst hA
   clear hx
   by_cases hc : xb ≤ p
   ·have HT : Hid (ls ++ [⟨xa, xb⟩] = frontR (fs.take (i + 1)) p) := by show _ = (fs.take (i + 1)).filter _; rw [HT0.out, if_pos (by simp [hc]), HL.out]; rfl
    go_wp2_with (at_builtin; refine wpList_app_own (base := w.heap.size) (f := Pt.enc) (ys := [⟨xa, xb⟩]) _ _ rfl rfl et_span (hO.alloc _) rfl rfl ((Blk.new W 57 #[xa, xb]).slc1 (y := (⟨xa, xb⟩ : Pt)) (f := Pt.enc) rfl) rfl pt_len pt_one (by simp <;> omega) (by have := hB.size; simp <;> omega) ?_; intro v6 W6 hO6 hb6 hg6)
    have hal := (Below.refl W.heap.size W).alloc (Nat.le_refl _) (.cells #[xa, xb] 57)
    replace hB := (hB.trans (hal.mono hB.size)).trans hb6
    clear d0 d1 hO hal hb6 hg6
    go_roundw
    case rel => exact ⟨i + 1, ls ++ [⟨xa, xb⟩], by go_num, by omega, by simp; omega, HT, hO6, hB⟩
    case measure => simp [intOf]; omega
   ·have HT : Hid (ls = frontR (fs.take (i + 1)) p) := by show _ = (fs.take (i + 1)).filter _; rw [HT0.out, if_neg (by simpa using hc), List.append_nil]; exact HL.out
    go_wp2_with fail
    clear d0 d1
    go_roundw
    case rel => exact ⟨i + 1, ls, by go_num, by omega, by omega, HT, hO, hB⟩
    case measure => simp [intOf]; omega
  ·obtain rfl : i = fs.length := by omega
   have h9 : Hid (ls = frontR fs p) := by show _ = _; rw [HL.out, List.take_length]
   obtain ⟨A, c, rfl, hsl⟩ := hO.form pt_len
   go_wp2_with fail
   go_ret
   rw [← h9.out]
   exact ⟨A, c, rfl, hB, hsl, fun _ => hO⟩
theorem behind_take {fs : List Pt} {i : Nat} {x : Pt} (h : fs[i]? = some x) (p : Int) : behindR (fs.take (i + 1)) p = behindR (fs.take i) p ++ if p ≤ x.a then [⟨x.a - p, x.b - p⟩] else [] := by
 unfold behindR
 rw [filter_take h, List.map_append]
 by_cases hc : p ≤ x.a
 ·rw [if_pos hc, if_pos (by simp [hc])]; rfl
 ·rw [if_neg hc, if_neg (by simpa using hc)]; rfl
set_option maxRecDepth 100000 in
set_option maxHeartbeats 2000000 in
theorem behind_any (A : Option Addr) (c : Nat) (fs : List Pt) (p : Int) (w : World) (hS : Slc Pt.enc 2 w w.heap.size A fs) (hfl : fs.length ≤ 100000) (hfb : ∀ q ∈ fs, -1000000 ≤ q.a ∧ q.a ≤ 1000000 ∧ -1000000 ≤ q.b ∧ q.b ≤ 1000000) (hp : 0 ≤ p ∧ p ≤ 1000000) :
  Calls Tryz.prog 94 #[.slice A fs.length c, p] w (ClonePost 57 Pt.enc 2 (behindR fs p) w) := by
 have HFB := hide hfb
 clear hfb
 go_enter Tryz.func94, Tryz.ntmps94
 go_upto_region 3 with fail
 go_loopw [5, 6] (fun v z wr => ∃ (i : Nat) (ls : List Pt), z = .int .i64 i ∧ i ≤ fs.length ∧ ls.length ≤ i ∧ Hid (ls = behindR (fs.take i) p) ∧ Own wr w.heap.size 57 2 Pt.enc v ls ∧ Below w.heap.size w wr) (fun _ z _ => fs.length - (intOf z).toNat)
 case atStart => exact ⟨0, [], rfl, Nat.zero_le _, Nat.zero_le _, rfl, Own.nil_, Below.refl _ _⟩
 case round =>
  obtain ⟨W, rfl⟩ := is_ wr
  obtain ⟨i, ls, rfl, hi, hll, HL, hO, hB⟩ := hrel
  have hBs := hB.size
  by_cases hlt : i < fs.length
  ·obtain ⟨xa, xb, bF, oF, hx, hA, hbF, d0, d1⟩ := pts_at (hS.below hB) hlt
   have hii : (i : Int) < (fs.length : Int) := by omega
   have ei := wsuc i (by omega)
   have hfx := HFB.out _ (List.mem_of_getElem? hx)
   dsimp only at hfx
   obtain ⟨pa, hpa⟩ : ∃ pa, pa = xa - p := ⟨_, rfl⟩
   obtain ⟨pb, hpb⟩ : ∃ pb, pb = xb - p := ⟨_, rfl⟩
   have e1 : IntKind.i64.wrap (xa - p) = pa := by rw [hpa]; exact IntWalk.i64_in _ (by omega)
   have e2 : IntKind.i64.wrap (xb - p) = pb := by rw [hpb]; exact IntWalk.i64_in _ (by omega)
   have HT0 : Hid (behindR (fs.take (i + 1)) p = behindR (fs.take i) p ++ if p ≤ xa then [⟨pa, pb⟩] else []) := by show _ = _; rw [behind_take hx, hpa, hpb]
   have hbFw : bF < w.heap.size := by
    obtain ⟨b', o', hA', hb', _⟩ := hS i ⟨xa, xb⟩ hx
    rw [hA] at hA'
    cases hA'
    exact hb'
   subst hA
   clear hx hfx hpa hpb
   by_cases hc : p ≤ xa
   ·have HT : Hid (ls ++ [⟨pa, pb⟩] = behindR (fs.take (i + 1)) p) := by show _ = _; rw [HT0.out, if_pos hc, HL.out]
    go_upto_region 6 with fail
    obtain ⟨v, rfl⟩ := is_ u5
    have hB1 : w.heap.size ≤ W.heap.size := hBs
    have hgv : ∀ W', Chg (fun k => v.ownBlock = some k) W W' → W.grownBy W' v.ownBlock := fun W' hc => ⟨hc.os, hc.tape, hc.output, hc.size, fun k hk hn => hc.block k hk fun he => hn he.symm⟩
    have HGV := hide hgv
    have HO := hide hO
    have D0 := hide d0
    have D1 := hide d1
    have hll2 : ls.length + 1 ≤ 1000000000 := by omega
    have hbl : bF < W.heap.size := by omega
    clear hgv d0 d1
    refine wp_region_app 18 16 17 [0, 1, 2, 3, 4, 5, 6, 7, 8, 9, 10, 11, 12, 13, 14, 15] (.tmp 20) (.tmp 36) (cs := #[pa, pb]) (y := (⟨pa, pb⟩ : Pt)) (by kernel_rfl) (by kernel_rfl) (by kernel_rfl) (by kernel_rfl) et_span hO pt_len pt_one hll2 hB1 rfl (by decide) rfl rfl rfl ?_
    clear hO
    apply Exists.intro
    refine ⟨fun W1 hc => ?_, ?_⟩
    ·have hn : ¬ (v.ownBlock = some bF) := fun he => by have := own_base HO.out bF he; omega
     have y_d0 := Since.cell ((World.cell?_of_block (hc.block bF hbl hn)).trans D0.out)
     have y_d1 := Since.cell ((World.cell?_of_block (hc.block bF hbl hn)).trans D1.out)
     dsimp only [pick, List.filterMap, List.getElem?_cons_succ, List.getElem?_cons_zero]
     repeat (go_big_quiet_step (fail))
     exact wpQuiet_nil rfl
    ·refine ⟨rfl, fun w1 => exec_build rfl (by simp [Act.eval] <;> rfl) (run_build1 et_span (.agg #[pa, pb]) rfl (by omega) w1), fun gz => ⟨rfl, rfl, rfl, fun ga ca W4 hc4 hO4 => ?_⟩⟩
     have hB4 := hB.trans (grownv_below (HGV.out _ hc4) hB1 (fun k hk => own_base HO.out k hk))
     dsimp only [Act.put]
     simp only [List.setIfInBounds_toArray, List.set_cons_succ, List.set_cons_zero, List.drop_succ_cons, List.drop_zero]
     clear hB hc4 e1 e2
     go_wp2_with fail
     go_roundw
     case rel => exact ⟨i + 1, ls ++ [⟨pa, pb⟩], by go_num, by omega, by simp; omega, HT, by simpa using hO4, hB4⟩
     case measure => simp [intOf]; omega
   ·have HT : Hid (ls = behindR (fs.take (i + 1)) p) := by show _ = _; rw [HT0.out, if_neg hc, List.append_nil]; exact HL.out
    go_wp2_with fail
    clear d0 d1 e1 e2
    go_roundw
    case rel => exact ⟨i + 1, ls, by go_num, by omega, by omega, HT, hO, hB⟩
    case measure => simp [intOf]; omega
  ·obtain rfl : i = fs.length := by omega
   have h9 : Hid (ls = behindR fs p) := by show _ = _; rw [HL.out, List.take_length]
   obtain ⟨A, c, rfl, hsl⟩ := hO.form pt_len
   go_wp2_with fail
   go_ret
   rw [← h9.out]
   exact ⟨A, c, rfl, hB, hsl, fun _ => hO⟩
end Go.Proofs.YtehlbomkldnalaaGreat

/- The reference's offcut: the walk. -/
namespace Go.Proofs.YtehlbomkldnalaaGreat
open Go Go.RowKit
/-- P and the blocks from a to b -/
def PB (P : Nat → Prop) (a b : Nat) (k : Nat) : Prop := P k ∨ (a ≤ k ∧ k < b)
section
variable {w W : World} {P P' : Nat → Prop} {v : RV} {r : RS}
theorem RAt.less (h : RAt w P' v r) (hP : ∀ k, P k → P' k) : RAt w P v r := h.more fun k hk => .inl (hP k hk)
theorem RAt.box (h : RAt w P v r) (hb : Below w.heap.size w W) : RAt W (PB P w.heap.size W.heap.size) v r :=
 ((h.more (P' := fun k => P k ∨ w.heap.size ≤ k) fun k hk => hk).below hb).less fun k hk => by rcases hk with h1 | h1; exact .inl h1; exact .inr h1.1
theorem RsV.less {x : Sheet} {h : SH} (k : RsV w P' x h) (hP : ∀ k, P k → P' k) : RsV w P x h := k.more fun j hj => .inl (hP j hj)
theorem RsV.box {x : Sheet} {h : SH} (k : RsV w P x h) (hb : Below w.heap.size w W) : RsV W (PB P w.heap.size W.heap.size) x h :=
 ((k.more (P' := fun k => P k ∨ w.heap.size ≤ k) fun k hk => hk).below hb).less fun k hk => by rcases hk with h1 | h1; exact .inl h1; exact .inr h1.1
theorem PB.lt (hP : ∀ k, P k → k < w.heap.size) (hb : w.heap.size ≤ W.heap.size) : ∀ k, PB P w.heap.size W.heap.size k → k < W.heap.size := fun k hk => by
 rcases hk with h1 | h1
 ·have := hP k h1; omega
 ·exact h1.2
theorem RAt.unbox {w0 w1 : World} {a b g : Nat} (h : RAt w0 (PB P a b) v r) (hc : Chg (fun k => k = g) w0 w1) (hg : a ≤ g ∧ g < b) : RAt w1 P v r :=
 (h.chg (hc.mono fun k _ hk => by subst hk; exact .inr hg)).less fun k hk => .inl hk
theorem Offs.box {α : Type} {enc : α → List Value} {sz : Nat} {A : Option Addr} {xs : List α} (ho : Offs P A xs) (h : Slc enc sz w w.heap.size A xs) (b : Nat) : Offs (PB P w.heap.size b) A xs := ho.more h fun k hk => by rcases hk with h1 | h1; exact .inl h1; exact .inr h1.1
end
def RIs (P : Nat → Prop) (r : RS) (u : Value) (w : World) : Prop := ∃ v2 : RV, u = .agg ↑v2 ∧ RAt w P v2 r
set_option maxRecDepth 100000 in
set_option maxHeartbeats 4000000 in
theorem offcut_any (v : RV) (r : RS) (P : Nat → Prop) (y : Sheet) (g : SH) (wd le : Int) (Af : Option Addr) (cf : Nat) (fs : List Pt) (w : World) (h : RAt w P v r) (hg : RsV w P y g) (hF : Slc Pt.enc 2 w w.heap.size Af fs) (hO : Offs P Af fs) (hP : ∀ k, P k → k < w.heap.size) (hi : r.items.length ≤ 1000000) (hl : r.links.length ≤ 1000000) (hm : maxL r.links ≤ 1000000000000) :
  Calls Tryz.prog 91 #[.agg ↑v, .agg ↑g, wd, le, .slice Af fs.length cf] w (StPost P (r.offcut y wd le fs) w) := by
 have HPP := hide hP
 have HI := hide hi
 have HL := hide hl
 have HM := hide hm
 obtain ⟨hbx, hgx, hr0, hal, hsz⟩ := box3 w 38 93 38 ↑v ↑g ↑zrA
 have HW := hide hal
 go_enter Tryz.func91, Tryz.ntmps91
 go_upto_region 1 with fail
 generalize ((w.alloc (.cells ↑v 38)).alloc (.cells ↑g 93)).alloc (.cells ↑zrA 38) = W at *
 have HH := hide (h.box hal)
 have HO : Hid (Offs (PB P w.heap.size W.heap.size) Af fs) := hO.box hF _
 have HF : Hid (Slc Pt.enc 2 W W.heap.size Af fs) := Slc.on hF hal
 have HP2 : Hid (∀ k, PB P w.heap.size W.heap.size k → k < W.heap.size) := PB.lt hP hal.size
 have HG0 := hide hg
 have HSZ := hide hsz
 clear h hg hF hO hP hi hl hm hal hsz
 obtain ⟨P2, hP2⟩ := nm_ (PB P w.heap.size W.heap.size)
 have HPE := hide hP2
 rw [hP2] at HH HO HP2
 clear hP2
 obtain ⟨c0, c1, c2, c3, c4, c5, c6, c7, c8⟩ := hbx.all9
 have e0 := hgx.cell_ 0 (v := g.id) rfl
 obtain ⟨k, hk⟩ := nm_ r.next
 have HK := hide hk
 have HBX := hide hbx
 have HR0 := hide hr0
 clear hbx hr0
 go_wp2_with fail
 refine (next_any v r P2 W HH.out HL.out HM.out k hk).mono ?_
 rintro e W1 ⟨rfl, hb1⟩
 replace hgx := hgx.below hb1 hgx.lt
 clear c0 c1 c2 c3 c4 c5 c6 c7 c8 e0 hk
 go_upto_region 3 with (first
  | (refine wpList_store_at rfl 3 _ _ rfl (.int .i64 k) hgx rfl rfl (by kernel_rfl) rfl (by simp) rfl ?_; intro W2 hg2 hc2)
  | (refine wpList_store_at rfl 3 _ _ rfl (.int .i64 wd) hg2 rfl rfl (by kernel_rfl) rfl (by simp) rfl ?_; intro W3 hg3 hc3)
  | (refine wpList_store_at rfl 3 _ _ rfl (.int .i64 le) hg3 rfl rfl (by kernel_rfl) rfl (by simp) rfl ?_; intro W4 hg4 hc4)
  | (refine wpList_store_at rfl 41 _ _ rfl (.slice Af fs.length cf) hg4 rfl rfl (by kernel_rfl) rfl (by simp) rfl ?_; intro W5 hg5 hc5))
 try dsimp only [Act.put]
 have hc := ((hc2.trans hc3).trans hc4).trans hc5
 obtain ⟨g2, hg2e⟩ : ∃ g2 : SH, g2 = ⟨k, g.root, g.gr, g.co, g.lo, g.ma, wd, le, Af, fs.length, cf⟩ := ⟨_, rfl⟩
 have hgx : Blk W5 (w.heap.size + 1) 93 ↑g2 := by rw [hg2e]; exact hg5
 obtain ⟨y2, hy2⟩ : ∃ y2 : Sheet, y2 = { y with id := k, width := wd, length := le, faults := fs } := ⟨_, rfl⟩
 have HY2 := hide hy2
 have hs5 : W.heap.size ≤ W5.heap.size := Nat.le_trans hb1.size hc.size
 have hgE : W1.heap.size ≤ W5.heap.size := hc.size
 have HB5 : Hid (Chg (fun k => k = w.heap.size + 1) W W5) := (Chg.of_below hb1).trans hc
 have hin : P2 (w.heap.size + 1) := by rw [← HPE.out]; exact .inr ⟨by omega, by have := HSZ.out; omega⟩
 have HCP : Hid (Chg P2 W W5) := HB5.out.mono fun k _ hk => by subst hk; exact hin
 have HH5 : Hid (RAt W5 P2 v r) := HH.out.chg HCP.out
 have HY5 : Hid (RsV W5 P2 y2 g2) := by
  obtain ⟨A0, c0, he, _⟩ := HG0.out
  refine ⟨Af, cf, ?_, ?_, ?_⟩
  ·rw [hg2e, hy2, he]; rfl
  ·rw [hy2]; exact HF.out.chgO HCP.out HO.out
  ·rw [hy2]; exact HO.out
 have HP5 : Hid (∀ k, P2 k → k < W5.heap.size) := fun k hk => Nat.lt_of_lt_of_le (HP2.out k hk) hs5
 have HBX5 : Hid (Blk W5 w.heap.size 38 ↑v) := HBX.out.chg1 HB5.out (by omega)
 have HR5 : Hid (Blk W5 (w.heap.size + 2) 38 ↑zrA) := HR0.out.chg1 HB5.out (by omega)
 have HGX5 := hide hgx
 have HK0 : Hid (k = g2.id) := by rw [hg2e]; exact rfl
 have HID : Hid (g.id = y.id) := HG0.out.id_
 have HBW : Hid (Below w.heap.size w W5) := HW.out.trans (HB5.out.below1 HW.out.size (by omega))
 clear hc2 hc3 hc4 hc5 hg2 hg3 hg4 hg5 hb1 hgx hg2e hy2 hs5 hgE hin hc
 refine wp_region_call2 (argsi := #[.agg ↑v, .agg ↑g2]) 2 6 7 [0, 1, 3, 4, 5] (RIs P2 (r.withI y2)) (fun u => #[u, g2.id, g.id]) (RIs P2 (r.offcut y wd le fs)) (by kernel_rfl) (by kernel_rfl) (by kernel_rfl) (by kernel_rfl) (by decide) (fun u w w' hb ⟨v2, h1, h2⟩ => ⟨v2, h1, h2.below hb⟩) (fun u w w' hb ⟨v2, h1, h2⟩ => ⟨v2, h1, h2.below hb⟩) rfl rfl rfl rfl rfl rfl (fun _ _ => rfl) (fun _ _ => rfl) ?_
 apply Exists.intro
 refine ⟨fun W1 hc => ?_, ?_⟩
 ·have hx1 := HBX5.out.below hc HBX5.out.lt
  have hx2 := HGX5.out.below hc HGX5.out.lt
  obtain ⟨y_c0, y_c1, y_c2, y_c3, y_c4, y_c5, y_c6, y_c7, y_c8⟩ := hx1.sin9
  obtain ⟨y_e0, y_e1, y_e2, y_e3, y_e4, y_e5, y_e6, y_e7, y_e8⟩ := hx2.sin9
  clear hx1 hx2
  dsimp only [pick, List.filterMap, List.getElem?_cons_succ, List.getElem?_cons_zero]
  repeat (go_big_quiet_step (fail))
  exact wpQuiet_nil rfl
 refine ⟨by simp [Act.eval], rfl, fun w1 hb1 => ?_, fun ui => ?_⟩
 ·refine (with_any v r P2 y2 g2 w1 (HH5.out.below hb1) (HY5.out.below hb1) (fun k hk => Nat.lt_of_lt_of_le (HP5.out k hk) hb1.size) HI.out).mono ?_
  rintro e w3 ⟨v2, rfl, h1, h2⟩
  exact ⟨_, rfl, ⟨v2, rfl, h1⟩, h2⟩
 refine ⟨by simp [Act.eval, Act.put], rfl, fun w1 hb1 ⟨v2, hu, hx⟩ => ?_, fun u w8 hb8 ⟨v2, hu, hx⟩ => ?_⟩
 ·rw [hu]
  refine (linked_any v2 (r.withI y2) P2 g2.id g.id w1 hx (fun k hk => Nat.lt_of_lt_of_le (HP5.out k hk) hb1.size) HL.out).mono ?_
  rintro e w3 ⟨v3, rfl, h1, h2⟩
  have he : (r.withI y2).linked g2.id g.id = r.offcut y wd le fs := by
   unfold RS.offcut
   rw [HY2.out, HK.out, ← HK0.out, HID.out]
  rw [he] at h1
  exact ⟨_, rfl, ⟨v3, rfl, h1⟩, h2⟩
 subst hu
 have hr := HR5.out.below hb8 HR5.out.lt
 have HX8 := hide hx
 have hB8 := HBW.out.trans (hb8.mono HBW.out.size)
 clear hx hb8
 dsimp only [Act.put]
 simp only [List.setIfInBounds_toArray, List.set_cons_succ, List.set_cons_zero, List.drop_succ_cons, List.drop_zero]
 go_wp2_with (refine wpList_store_blk rfl 38 _ _ rfl ↑v2 hr rfl rfl (by kernel_rfl) rfl (by simp [Value.oneCell']) ?_; intro W9 hr9 hc9; obtain ⟨q0, q1, q2, q3, q4, q5, q6, q7, q8⟩ := hr9.all9)
 refine bodyPost_ret (v := .agg ↑v2) (by simp [results, Tryz.results91, go_sem, q0, q1, q2, q3, q4, q5, q6, q7, q8]) rfl ?_
 have hX9 : RAt W9 P v2 (r.offcut y wd le fs) := by
  have := HX8.out
  rw [← HPE.out] at this
  exact this.unbox hc9 ⟨by omega, by have := HSZ.out; omega⟩
 exact ⟨v2, rfl, hX9, hB8.trans (hc9.below1 hB8.size (by omega))⟩
end Go.Proofs.YtehlbomkldnalaaGreat

/- The reference's Scrap and Return: the walks. -/
namespace Go.Proofs.YtehlbomkldnalaaGreat
open Go Go.RowKit
def RPost (P : Nat → Prop) (s : SS) (er : Int) (w : World) (e : Ending) (w' : World) : Prop := ∃ (v2 : RV) (r2 : RS), e = .returned (.tuple #[.agg ↑v2, er]) ∧ RAt w' P v2 r2 ∧ Rel r2 s ∧ Below w.heap.size w w'
theorem Rel.item_is {r : RS} {s : SS} (h : Rel r s) (hi : Inv s) (id : Int) : r.itemR id = look s.items id := h.it.find (fun k x hx => (hi.it k x hx).1) id
theorem Rel.piece_is {r : RS} {s : SS} (h : Rel r s) (hi : Inv s) (id : Int) : r.pieceR id = look s.pieces id := h.pc.find (fun k x hx => (hi.pc k x hx).1) id
theorem Rel.lens {r : RS} {s : SS} (h : Rel r s) (hi : Inv s) (hf : Few s) : r.items.length ≤ 1000000 ∧ r.pieces.length ≤ 1000000 ∧ r.links.length ≤ 1000000 ∧ r.rolls.length ≤ 1000000 ∧ maxL r.links ≤ 1000000000000 := ⟨by rw [h.ilen hi]; exact hf.it, by rw [h.plen hi]; exact hf.pc, by rw [h.ll]; exact hf.pa, Nat.le_trans h.rl hf.pa, by rw [h.la]; exact hf.la⟩
set_option maxRecDepth 100000 in
set_option maxHeartbeats 4000000 in
theorem rscrap_any (v : RV) (r : RS) (s : SS) (P : Nat → Prop) (id : Int) (w : World) (h : RAt w P v r) (hR : Rel r s) (hI : Inv s) (hF : Few s) (hP : ∀ k, P k → k < w.heap.size) :
  Calls Tryz.prog 28 #[.agg ↑v, id] w (RPost P (scrapF s id) (scrapE s id) w) := by
 have HR := hide hR
 have HI := hide hI
 have HLN := hide (hR.lens hI hF)
 have HPP := hide hP
 obtain ⟨hb, hr, hal, hsz⟩ := box2 w 38 38 ↑v ↑zrA
 have HW := hide hal
 go_enter Tryz.func28, Tryz.ntmps28
 go_upto_region 1 with fail
 generalize (w.alloc (.cells ↑v 38)).alloc (.cells ↑zrA 38) = W at *
 have HH := hide (h.box hal)
 have HP2 : Hid (∀ k, PB P w.heap.size W.heap.size k → k < W.heap.size) := PB.lt hP hal.size
 have HSZ := hide hsz
 have HB := hide hb
 have HRB := hide hr
 clear hR hI hF h hP hal hsz
 obtain ⟨c0, c1, c2, c3, c4, c5, c6, c7, c8⟩ := hb.all9
 clear hb hr
 cases hit : look s.items id with
 | some x =>
  have HE : Hid (scrapE s id = 0) := by show _ = _; unfold scrapE; rw [hit]; rfl
  have HF : Hid (Rel (r.without id) (scrapF s id)) := by
   show Rel _ _
   unfold scrapF
   rw [hit]
   exact (HR.out.without id).waste _
  go_wp2_with fail
  refine (item_any v r _ id W HH.out HLN.out.1 (some x) ((HR.out.item_is HI.out id).trans hit)).mono ?_
  rintro e W1 ⟨⟨g, rfl⟩, hb1⟩
  go_upto_region 3 with fail
  have hal := (Below.refl W1.heap.size W1).alloc (Nat.le_refl _) (.cells ↑g 93)
  generalize W1.alloc (.cells ↑g 93) = W2 at *
  have hB2 := hb1.trans (hal.mono hb1.size)
  clear hb1 hal
  clear c0 c1 c2 c3 c4 c5 c6 c7 c8
  have hbx := HB.out.below hB2 HB.out.lt
  obtain ⟨c0, c1, c2, c3, c4, c5, c6, c7, c8⟩ := hbx.all9
  clear hbx
  have hr := HRB.out.below hB2 HRB.out.lt
  have hBB := HW.out.trans (hB2.mono HW.out.size)
  go_wp2_with fail
  refine (without_any v r _ id W2 (HH.out.below hB2) (fun k hk => Nat.lt_of_lt_of_le (HP2.out k hk) hB2.size) HLN.out.1).mono ?_
  rintro e W3 ⟨v2, rfl, hA3, hb3⟩
  clear c0 c1 c2 c3 c4 c5 c6 c7 c8
  replace hr := hr.below hb3 hr.lt
  replace hBB := hBB.trans (hb3.mono hBB.size)
  clear hB2 hb3 hit
  go_wp2_with (refine wpList_store_blk rfl 38 _ _ rfl ↑v2 hr rfl rfl (by kernel_rfl) rfl (by simp [Value.oneCell']) ?_; intro W9 hr9 hc9; obtain ⟨q0, q1, q2, q3, q4, q5, q6, q7, q8⟩ := hr9.all9)
  refine bodyPost_ret (v := .tuple #[.agg ↑v2, .int .i64 0]) (by simp [results, Tryz.results28, go_sem, q0, q1, q2, q3, q4, q5, q6, q7, q8]) rfl ?_
  rw [HE.out]
  refine ⟨v2, _, rfl, (RAt.unbox hA3 hc9 ⟨by omega, by have := HSZ.out; omega⟩), HF.out, hBB.trans (hc9.below1 hBB.size (by omega))⟩
 | none =>
  have hio := (HR.out.item_is HI.out id).trans hit
  have HIO := hide hio
  have HIT := hide hit
  clear hio hit
  go_wp2_with fail
  refine (item_any v r _ id W HH.out HLN.out.1 none HIO.out).mono ?_
  rintro e W1 ⟨⟨g, rfl⟩, hb1⟩
  go_upto_region 4 with fail
  have hal := (Below.refl W1.heap.size W1).alloc (Nat.le_refl _) (.cells ↑g 93)
  generalize W1.alloc (.cells ↑g 93) = W2 at *
  have hB2 := hb1.trans (hal.mono hb1.size)
  clear hb1 hal
  clear c0 c1 c2 c3 c4 c5 c6 c7 c8
  have hbx := HB.out.below hB2 HB.out.lt
  obtain ⟨c0, c1, c2, c3, c4, c5, c6, c7, c8⟩ := hbx.all9
  clear hbx
  have hr := HRB.out.below hB2 HRB.out.lt
  have hBB := HW.out.trans (hB2.mono HW.out.size)
  cases hpt : look s.pieces id with
  | some x =>
   have HE : Hid (scrapE s id = 0) := by show _ = _; unfold scrapE; rw [HIT.out, hpt]; rfl
   have HF : Hid (Rel (r.dropped id) (scrapF s id)) := by
    show Rel _ _
    unfold scrapF
    rw [HIT.out, hpt]
    exact (HR.out.dropped id).waste _
   have hpo := (HR.out.piece_is HI.out id).trans hpt
   have HPO := hide hpo
   clear hpo hpt hr hBB
   go_wp2_with fail
   refine (rpiece_any v r _ id W2 (HH.out.below hB2) HLN.out.2.1 (some x) HPO.out).mono ?_
   rintro e W1 ⟨⟨y, rfl, hyy⟩, hb1⟩
   clear hyy
   replace hb1 := hB2.trans (hb1.mono hB2.size)
   clear hB2
   go_upto_region 6 with fail
   have hal := (Below.refl W1.heap.size W1).alloc (Nat.le_refl _) (.cells ↑y 96)
   generalize W1.alloc (.cells ↑y 96) = W2 at *
   have hB2 := hb1.trans (hal.mono hb1.size)
   clear hb1 hal
   clear c0 c1 c2 c3 c4 c5 c6 c7 c8
   have hbx := HB.out.below hB2 HB.out.lt
   obtain ⟨c0, c1, c2, c3, c4, c5, c6, c7, c8⟩ := hbx.all9
   clear hbx
   have hr := HRB.out.below hB2 HRB.out.lt
   have hBB := HW.out.trans (hB2.mono HW.out.size)
   go_wp2_with fail
   refine (dropped_any v r _ id W2 (HH.out.below hB2) (fun k hk => Nat.lt_of_lt_of_le (HP2.out k hk) hB2.size) HLN.out.2.1).mono ?_
   rintro e W3 ⟨v2, rfl, hA3, hb3⟩
   clear c0 c1 c2 c3 c4 c5 c6 c7 c8
   replace hr := hr.below hb3 hr.lt
   replace hBB := hBB.trans (hb3.mono hBB.size)
   clear hB2 hb3
   go_wp2_with (refine wpList_store_blk rfl 38 _ _ rfl ↑v2 hr rfl rfl (by kernel_rfl) rfl (by simp [Value.oneCell']) ?_; intro W9 hr9 hc9; obtain ⟨q0, q1, q2, q3, q4, q5, q6, q7, q8⟩ := hr9.all9)
   refine bodyPost_ret (v := .tuple #[.agg ↑v2, .int .i64 0]) (by simp [results, Tryz.results28, go_sem, q0, q1, q2, q3, q4, q5, q6, q7, q8]) rfl ?_
   rw [HE.out]
   refine ⟨v2, _, rfl, (RAt.unbox hA3 hc9 ⟨by omega, by have := HSZ.out; omega⟩), HF.out, hBB.trans (hc9.below1 hBB.size (by omega))⟩
  | none =>
   have HE : Hid (scrapE s id = 5) := by show _ = _; unfold scrapE; rw [HIT.out, hpt]; rfl
   have HF : Hid (Rel r (scrapF s id)) := by
    show Rel _ _
    unfold scrapF
    rw [HIT.out, hpt]
    exact HR.out
   have hpo := (HR.out.piece_is HI.out id).trans hpt
   have HPO := hide hpo
   clear hpo hpt hr hBB
   go_wp2_with fail
   refine (rpiece_any v r _ id W2 (HH.out.below hB2) HLN.out.2.1 none HPO.out).mono ?_
   rintro e W1 ⟨⟨y, rfl, hyy⟩, hb1⟩
   clear hyy
   replace hb1 := hB2.trans (hb1.mono hB2.size)
   clear hB2
   go_upto_region 7 with fail
   have hal := (Below.refl W1.heap.size W1).alloc (Nat.le_refl _) (.cells ↑y 96)
   generalize W1.alloc (.cells ↑y 96) = W2 at *
   have hB2 := hb1.trans (hal.mono hb1.size)
   clear hb1 hal
   clear c0 c1 c2 c3 c4 c5 c6 c7 c8
   have hbx := HB.out.below hB2 HB.out.lt
   obtain ⟨c0, c1, c2, c3, c4, c5, c6, c7, c8⟩ := hbx.all9
   clear hbx
   have hr := HRB.out.below hB2 HRB.out.lt
   have hBB := HW.out.trans (hB2.mono HW.out.size)
   obtain ⟨v2, rfl⟩ := is_ v
   have hA3 := HH.out.below hB2
   go_wp2_with (refine wpList_store_blk rfl 38 _ _ rfl ↑v2 hr rfl rfl (by kernel_rfl) rfl (by simp [Value.oneCell']) ?_; intro W9 hr9 hc9; obtain ⟨q0, q1, q2, q3, q4, q5, q6, q7, q8⟩ := hr9.all9)
   refine bodyPost_ret (v := .tuple #[.agg ↑v2, .int .i64 5]) (by simp [results, Tryz.results28, go_sem, q0, q1, q2, q3, q4, q5, q6, q7, q8]) rfl ?_
   rw [HE.out]
   refine ⟨v2, _, rfl, (RAt.unbox hA3 hc9 ⟨by omega, by have := HSZ.out; omega⟩), HF.out, hBB.trans (hc9.below1 hBB.size (by omega))⟩
end Go.Proofs.YtehlbomkldnalaaGreat

/- The reference's Return: the walk. -/
namespace Go.Proofs.YtehlbomkldnalaaGreat
open Go Go.RowKit
theorem Rel.made {r : RS} {s : SS} (h : Rel r s) {lot : Int} {q : Kin} (hq : look s.lots lot = some q) : ∃ g : RH, r.lotR lot = some g ∧ g.ma = q.made := by
 have := h.lo lot
 rw [hq] at this
 cases hg : r.lotR lot with
 | none => rw [hg] at this; cases this
 | some g =>
  rw [hg] at this
  injection this with this
  exact ⟨g, rfl, by rw [← this]⟩
theorem rel_back {r : RS} {s : SS} (h : Rel r s) (hi : Inv s) {p : Piece} {id : Int} (hp : look s.pieces id = some p) : Rel ((r.dropped id).withI (backItem s p)) { s with pieces := del s.pieces id, items := put s.items id (backItem s p) } := by
 have hid := (hi.pc _ _ hp).1
 have hn : look s.items id = none := by
  cases e : look s.items id with
  | none => rfl
  | some x => rw [hi.di _ _ e] at hp; cases hp
 have h1 := (h.dropped id).withI (x := backItem s p) (by show look s.items p.id = none; rw [hid]; exact hn)
 rw [show (backItem s p).id = id from hid] at h1
 exact h1
theorem build_back (a b c d e f g h : Int) (w : World) : (Instr.build 93 #[(0, .int .i64 a), (1, .int .i64 b), (2, .int .i64 c), (3, .int .i64 d), (4, .int .i64 e), (5, .int .i64 f), (6, .int .i64 g), (7, .int .i64 h)]).run Tryz.prog w = .ok (.agg #[a, b, c, d, e, f, g, h, .slice none 0 0]) w := run_build w _ _ _ (by kernel_rfl)
theorem wpList_bld {P : Program} {ops : Array Oper} {rest : List Oper} {o : Oper} {a : Act} {w : World} {Q : Exit → Act → World → Prop} (hgd : o.guard = none) {t : TypeId} {parts : Array (Nat × Operand)} {ps : Array (Nat × Value)} (v : Value) (ho : o.op = .build t parts) (hp : (parts.map fun (i, x) => (i, a.eval x)) = ps) (hr : ∀ w, (Instr.build t ps).run P w = .ok v w) (h : wpList P ops Q rest (a.put o.dst v) w) : wpList P ops Q (o :: rest) a w := by
 refine wpList_plain hgd fun _ hK => ?_
 unfold Oper.wp
 rw [exec_bstruct (ps := ps) ho hp (hr w)]
 exact hK _ _ h
set_option maxRecDepth 100000 in
set_option maxHeartbeats 4000000 in
theorem rreturn_any (v : RV) (r : RS) (s : SS) (P : Nat → Prop) (id : Int) (w : World) (h : RAt w P v r) (hR : Rel r s) (hI : Inv s) (hF : Few s) (hP : ∀ k, P k → k < w.heap.size) :
  Calls Tryz.prog 26 #[.agg ↑v, id] w (RPost P (backS s id) (backE s id) w) := by
 have HR := hide hR
 have HI := hide hI
 have HLN := hide (hR.lens hI hF)
 have HPP := hide hP
 obtain ⟨hb, hr, hal, hsz⟩ := box2 w 38 38 ↑v ↑zrA
 have HW := hide hal
 go_enter Tryz.func26, Tryz.ntmps26
 go_upto_region 1 with fail
 generalize (w.alloc (.cells ↑v 38)).alloc (.cells ↑zrA 38) = W at *
 have HH := hide (h.box hal)
 have HP2 : Hid (∀ k, PB P w.heap.size W.heap.size k → k < W.heap.size) := PB.lt hP hal.size
 have HSZ := hide hsz
 have HB := hide hb
 have HRB := hide hr
 clear hR hI hF h hP hal hsz
 obtain ⟨c0, c1, c2, c3, c4, c5, c6, c7, c8⟩ := hb.all9
 clear hb hr
 cases hpt : look s.pieces id with
 | none =>
  have HE : Hid (backE s id = 5) := by show _ = _; unfold backE; rw [hpt]
  have HF : Hid (Rel r (backS s id)) := by show Rel _ _; unfold backS; rw [hpt]; exact HR.out
  have HPO := hide ((HR.out.piece_is HI.out id).trans hpt)
  clear hpt
  go_wp2_with fail
  refine (rpiece_any v r _ id W HH.out HLN.out.2.1 none HPO.out).mono ?_
  rintro e W1 ⟨⟨y, rfl, hyy⟩, hb1⟩
  clear hyy
  go_upto_region 3 with fail
  have hal := (Below.refl W1.heap.size W1).alloc (Nat.le_refl _) (.cells ↑y 96)
  generalize W1.alloc (.cells ↑y 96) = W2 at *
  have hB2 := hb1.trans (hal.mono hb1.size)
  clear hb1 hal
  clear c0 c1 c2 c3 c4 c5 c6 c7 c8
  have hbx := HB.out.below hB2 HB.out.lt
  obtain ⟨c0, c1, c2, c3, c4, c5, c6, c7, c8⟩ := hbx.all9
  clear hbx
  have hr := HRB.out.below hB2 HRB.out.lt
  have hBB := HW.out.trans (hB2.mono HW.out.size)
  obtain ⟨v2, rfl⟩ := is_ v
  have hA3 := HH.out.below hB2
  go_wp2_with (refine wpList_store_blk rfl 38 _ _ rfl ↑v2 hr rfl rfl (by kernel_rfl) rfl (by simp [Value.oneCell']) ?_; intro W9 hr9 hc9; obtain ⟨q0, q1, q2, q3, q4, q5, q6, q7, q8⟩ := hr9.all9)
  refine bodyPost_ret (v := .tuple #[.agg ↑v2, .int .i64 5]) (by simp [results, Tryz.results26, go_sem, q0, q1, q2, q3, q4, q5, q6, q7, q8]) rfl ?_
  rw [HE.out]
  refine ⟨v2, _, rfl, (RAt.unbox hA3 hc9 ⟨by omega, by have := HSZ.out; omega⟩), HF.out, hBB.trans (hc9.below1 hBB.size (by omega))⟩
 | some p =>
  have HPT := hide hpt
  have HPO := hide ((HR.out.piece_is HI.out id).trans hpt)
  have hpk := (HI.out.pc _ _ hpt).2
  have HPK := hide hpk
  clear hpt hpk
  go_wp2_with fail
  refine (rpiece_any v r _ id W HH.out HLN.out.2.1 (some p) HPO.out).mono ?_
  rintro e W1 ⟨⟨y, rfl, hyy⟩, hb1⟩
  obtain rfl := hyy p rfl
  clear hyy
  have hpx := Blk.new W1 96 ↑y
  obtain ⟨bx, hbxe⟩ := nm_ W1.heap.size
  have hbl : w.heap.size + 2 ≤ bx := by have := hb1.size; have := HSZ.out; omega
  go_upto_region 4 with fail
  have hal := (Below.refl W1.heap.size W1).alloc (Nat.le_refl _) (.cells ↑y 96)
  generalize W1.alloc (.cells ↑y 96) = W2 at *
  have hB2 := hb1.trans (hal.mono hb1.size)
  clear hb1 hal
  rw [hbxe] at hpx
  clear hbxe
  clear c0 c1 c2 c3 c4 c5 c6 c7 c8
  have hbx := HB.out.below hB2 HB.out.lt
  obtain ⟨c0, c1, c2, c3, c4, c5, c6, c7, c8⟩ := hbx.all9
  clear hbx
  have hr := HRB.out.below hB2 HRB.out.lt
  have hBB := HW.out.trans (hB2.mono HW.out.size)
  have z7 := hpx.cell_ 7 (v := y.use) rfl
  by_cases hu : y.use = 0
  case neg =>
   have HE : Hid (backE s id = 25) := by show _ = _; unfold backE; rw [HPT.out]; exact if_neg hu
   have HF : Hid (Rel r (backS s id)) := by show Rel _ _; unfold backS; rw [HPT.out]; dsimp only; rw [if_neg hu]; exact HR.out
   clear hpx
   obtain ⟨v2, rfl⟩ := is_ v
   have hA3 := HH.out.below hB2
   go_wp2_with (refine wpList_store_blk rfl 38 _ _ rfl ↑v2 hr rfl rfl (by kernel_rfl) rfl (by simp [Value.oneCell']) ?_; intro W9 hr9 hc9; obtain ⟨q0, q1, q2, q3, q4, q5, q6, q7, q8⟩ := hr9.all9)
   refine bodyPost_ret (v := .tuple #[.agg ↑v2, .int .i64 25]) (by simp [results, Tryz.results26, go_sem, q0, q1, q2, q3, q4, q5, q6, q7, q8]) rfl ?_
   rw [HE.out]
   refine ⟨v2, _, rfl, (RAt.unbox hA3 hc9 ⟨by omega, by have := HSZ.out; omega⟩), HF.out, hBB.trans (hc9.below1 hBB.size (by omega))⟩
  case pos =>
   have HE : Hid (backE s id = 0) := by show _ = _; unfold backE; rw [HPT.out]; exact if_pos hu
   have HS : Hid (backS s id = backFn s id y) := by show _ = _; unfold backS; rw [HPT.out]; dsimp only; rw [if_pos hu]
   go_wp2_with fail
   refine (dropped_any v r _ id W2 (HH.out.below hB2) (fun k hk => Nat.lt_of_lt_of_le (HP2.out k hk) hB2.size) HLN.out.2.1).mono ?_
   rintro e W3 ⟨vd, rfl, hA3, hb3⟩
   clear c0 c1 c2 c3 c4 c5 c6 c7 c8
   replace hr := hr.below hb3 hr.lt
   replace hBB := hBB.trans (hb3.mono hBB.size)
   replace hpx := hpx.below hb3 hpx.lt
   have hs3 := (HB.out.below hB2 HB.out.lt).below hb3 (by have := HB.out.lt; have := hB2.size; omega)
   have hP3 : Hid (∀ k, PB P w.heap.size W.heap.size k → k < W3.heap.size) := fun k hk => Nat.lt_of_lt_of_le (HP2.out k hk) (Nat.le_trans hB2.size hb3.size)
   clear hB2 hb3 z7 hu
   go_upto_region 7 with (refine wpList_store_blk rfl 38 _ _ rfl ↑vd hs3 rfl rfl (by kernel_rfl) rfl (by simp [Value.oneCell']) ?_; intro W4 hs4 hc4)
   try dsimp only [Act.put]
   have hA := hA3.chg (hc4.mono fun k _ hk => by subst hk; exact .inr ⟨Nat.le_refl _, by have := HSZ.out; omega⟩)
   have hP4 : Hid (∀ k, PB P w.heap.size W.heap.size k → k < W4.heap.size) := fun k hk => Nat.lt_of_lt_of_le (hP3.out k hk) hc4.size
   replace hr := hr.chg1 hc4 (by omega)
   replace hpx := hpx.chg1 hc4 (by omega)
   replace hBB := hBB.trans (hc4.below1 hBB.size (Nat.le_refl _))
   have hs := hs4
   clear hs3 hs4 hc4 hA3 hP3
   have HRU : Hid (s.rules.minWidth = vd.mw ∧ s.rules.minLength = vd.ml) := by
    have h1 : r.rules = _ := hA.ru
    show _ ∧ _
    rw [← HR.out.ru, h1]; exact ⟨rfl, rfl⟩
   obtain ⟨c0, c1, c2, c3, c4, c5, c6, c7, c8⟩ := hs.all9
   have z0 := hpx.cell_ 0 (v := y.id) rfl
   have z1 := hpx.cell_ 1 (v := y.root) rfl
   have z2 := hpx.cell_ 2 (v := y.lot) rfl
   have z3 := hpx.cell_ 3 (v := y.grade) rfl
   have z4 := hpx.cell_ 4 (v := y.colour) rfl
   have z5 := hpx.cell_ 5 (v := y.width) rfl
   have z6 := hpx.cell_ 6 (v := y.length) rfl
   by_cases h1 : vd.mw ≤ y.width
   case neg =>
    have HF : Hid (Rel (r.dropped id) (backS s id)) := by
     show Rel _ _
     rw [HS.out]
     unfold backFn
     rw [if_pos (.inl (by rw [HRU.out.1]; omega))]
     exact (HR.out.dropped id).waste _
    go_upto_region 10 with fail
    clear c0 c1 c2 c3 c4 c5 c6 c7 c8
    clear z0 z1 z2 z3 z4 z5 z6 hpx
    obtain ⟨v2, rfl⟩ := is_ vd
    have hbx := hs
    obtain ⟨c0, c1, c2, c3, c4, c5, c6, c7, c8⟩ := hbx.all9
    clear hbx hs
    go_wp2_with (refine wpList_store_blk rfl 38 _ _ rfl ↑v2 hr rfl rfl (by kernel_rfl) rfl (by simp [Value.oneCell']) ?_; intro W9 hr9 hc9; obtain ⟨q0, q1, q2, q3, q4, q5, q6, q7, q8⟩ := hr9.all9)
    refine bodyPost_ret (v := .tuple #[.agg ↑v2, .int .i64 0]) (by simp [results, Tryz.results26, go_sem, q0, q1, q2, q3, q4, q5, q6, q7, q8]) rfl ?_
    rw [HE.out]
    refine ⟨v2, _, rfl, (RAt.unbox hA hc9 ⟨by omega, by have := HSZ.out; omega⟩), HF.out, hBB.trans (hc9.below1 hBB.size (by omega))⟩
   by_cases h2 : vd.ml ≤ y.length
   case neg =>
    have HF : Hid (Rel (r.dropped id) (backS s id)) := by
     show Rel _ _
     rw [HS.out]
     unfold backFn
     rw [if_pos (.inr (by rw [HRU.out.2]; omega))]
     exact (HR.out.dropped id).waste _
    go_upto_region 10 with fail
    clear c0 c1 c2 c3 c4 c5 c6 c7 c8
    clear z0 z1 z2 z3 z4 z5 z6 hpx
    obtain ⟨v2, rfl⟩ := is_ vd
    have hbx := hs
    obtain ⟨c0, c1, c2, c3, c4, c5, c6, c7, c8⟩ := hbx.all9
    clear hbx hs
    go_wp2_with (refine wpList_store_blk rfl 38 _ _ rfl ↑v2 hr rfl rfl (by kernel_rfl) rfl (by simp [Value.oneCell']) ?_; intro W9 hr9 hc9; obtain ⟨q0, q1, q2, q3, q4, q5, q6, q7, q8⟩ := hr9.all9)
    refine bodyPost_ret (v := .tuple #[.agg ↑v2, .int .i64 0]) (by simp [results, Tryz.results26, go_sem, q0, q1, q2, q3, q4, q5, q6, q7, q8]) rfl ?_
    rw [HE.out]
    refine ⟨v2, _, rfl, (RAt.unbox hA hc9 ⟨by omega, by have := HSZ.out; omega⟩), HF.out, hBB.trans (hc9.below1 hBB.size (by omega))⟩
   have HF : Hid (Rel ((r.dropped id).withI (backItem s y)) (backS s id)) := by
    show Rel _ _
    rw [HS.out]
    unfold backFn
    rw [if_neg (by rw [HRU.out.1, HRU.out.2]; omega)]
    exact rel_back HR.out HI.out HPT.out
   obtain ⟨q, hq, hq2⟩ := HPK.out.k
   clear hq2
   obtain ⟨gm, hgm, hgma⟩ := HR.out.made hq
   have HGM := hide hgm
   have HMA : Hid (gm.ma = madeF s y.lot) := by show _ = _; unfold madeF; rw [hq, hgma]
   clear hq hgm hgma
   go_wp2_with fail
   refine (lot_any vd (r.dropped id) _ y.lot W4 hA HLN.out.2.2.2.1 (some gm) HGM.out).mono ?_
   rintro e W5 ⟨⟨g, rfl, hgg⟩, hb5⟩
   have hal := (Below.refl W5.heap.size W5).alloc (Nat.le_refl _) (.cells #[g.id, g.gr, g.co, g.lo, g.ma, g.wi, g.le, .slice g.A g.n g.c] 43)
   have hgx := Blk.new W5 43 #[g.id, g.gr, g.co, g.lo, g.ma, g.wi, g.le, .slice g.A g.n g.c]
   have HGG : Hid (g = gm) := hgg
   clear hgg
   go_upto_region 9 with fail
   obtain ⟨gx, hgxe⟩ := nm_ W5.heap.size
   generalize W5.alloc (.cells #[g.id, g.gr, g.co, g.lo, g.ma, g.wi, g.le, .slice g.A g.n g.c] 43) = W6 at *
   have hb6 := hb5.trans (hal.mono hb5.size)
   clear hal hb5
   rw [hgxe] at hgx ⊢
   clear hgxe
   clear c0 c1 c2 c3 c4 c5 c6 c7 c8
   clear z0 z1 z2 z3 z4 z5 z6
   replace hr := hr.below hb6 hr.lt
   replace hBB := hBB.trans (hb6.mono hBB.size)
   replace hpx := hpx.below hb6 hpx.lt
   replace hs := hs.below hb6 hs.lt
   replace hA := hA.below hb6
   have hP6 : Hid (∀ k, PB P w.heap.size W.heap.size k → k < W6.heap.size) := fun k hk => Nat.lt_of_lt_of_le (hP4.out k hk) hb6.size
   clear hb6
   obtain ⟨c0, c1, c2, c3, c4, c5, c6, c7, c8⟩ := hs.all9
   have z0 := hpx.cell_ 0 (v := y.id) rfl
   have z1 := hpx.cell_ 1 (v := y.root) rfl
   have z2 := hpx.cell_ 2 (v := y.lot) rfl
   have z3 := hpx.cell_ 3 (v := y.grade) rfl
   have z4 := hpx.cell_ 4 (v := y.colour) rfl
   have z5 := hpx.cell_ 5 (v := y.width) rfl
   have z6 := hpx.cell_ 6 (v := y.length) rfl
   have x4 := hgx.cell_ 4 (v := g.ma) rfl
   have hv3 : RsV W6 (PB P w.heap.size W.heap.size) (backItem s y) ⟨y.id, y.root, y.grade, y.colour, y.lot, g.ma, y.width, y.length, none, 0, 0⟩ := by
    refine ⟨none, 0, ?_, Slc.nil_, fun h => absurd rfl h⟩
    rw [HGG.out, HMA.out]; rfl
   clear hgx hpx
   go_wp2_with (refine wpList_bld rfl (.agg #[y.id, y.root, y.grade, y.colour, y.lot, g.ma, y.width, y.length, .slice none 0 0]) rfl (by simp [Act.eval]; rfl) (build_back y.id y.root y.grade y.colour y.lot g.ma y.width y.length) ?_)
   refine (with_any vd (r.dropped id) _ (backItem s y) ⟨y.id, y.root, y.grade, y.colour, y.lot, g.ma, y.width, y.length, none, 0, 0⟩ W6 hA hv3 hP6.out HLN.out.1).mono ?_
   rintro e W7 ⟨ve, rfl, hA7, hb7⟩
   clear c0 c1 c2 c3 c4 c5 c6 c7 c8
   clear z0 z1 z2 z3 z4 z5 z6 x4
   replace hr := hr.below hb7 hr.lt
   replace hBB := hBB.trans (hb7.mono hBB.size)
   replace hs := hs.below hb7 hs.lt
   clear hb7 hA hv3
   go_upto_region 10 with (refine wpList_store_blk rfl 38 _ _ rfl ↑ve hs rfl rfl (by kernel_rfl) rfl (by simp [Value.oneCell']) ?_; intro W8 hs8 hc8)
   try dsimp only [Act.put]
   have hA := hA7.chg (hc8.mono fun k _ hk => by subst hk; exact .inr ⟨Nat.le_refl _, by have := HSZ.out; omega⟩)
   replace hr := hr.chg1 hc8 (by omega)
   replace hBB := hBB.trans (hc8.below1 hBB.size (Nat.le_refl _))
   clear hs hA7 hc8
   have hs := hs8
   clear hs8
   obtain ⟨vd, rfl⟩ := is_ ve
   obtain ⟨v2, rfl⟩ := is_ vd
   have hbx := hs
   obtain ⟨c0, c1, c2, c3, c4, c5, c6, c7, c8⟩ := hbx.all9
   clear hbx hs
   go_wp2_with (refine wpList_store_blk rfl 38 _ _ rfl ↑v2 hr rfl rfl (by kernel_rfl) rfl (by simp [Value.oneCell']) ?_; intro W9 hr9 hc9; obtain ⟨q0, q1, q2, q3, q4, q5, q6, q7, q8⟩ := hr9.all9)
   refine bodyPost_ret (v := .tuple #[.agg ↑v2, .int .i64 0]) (by simp [results, Tryz.results26, go_sem, q0, q1, q2, q3, q4, q5, q6, q7, q8]) rfl ?_
   rw [HE.out]
   refine ⟨v2, _, rfl, (RAt.unbox hA hc9 ⟨by omega, by have := HSZ.out; omega⟩), HF.out, hBB.trans (hc9.below1 hBB.size (by omega))⟩
end Go.Proofs.YtehlbomkldnalaaGreat

/- Expire and Recall of the reference: plain. -/
namespace Go.Proofs.YtehlbomkldnalaaGreat
open Go Go.RowKit
theorem Rel.same {r r' : RS} {s t : SS} (h : Rel r s) (hs : Same s t) (h1 : r'.rules = r.rules) (h2 : r'.rolls = r.rolls) (h3 : r'.links = r.links) (hi : Shows Sheet.id r'.items t.items) (hp : Shows Piece.id r'.pieces t.pieces) : Rel r' t :=
 ⟨by rw [h1, h.ru, hs.ru], hi, hp, fun k => by rw [h3, hs.pa]; exact h.lk k, by rw [h3, hs.la]; exact h.la, fun k => by unfold RS.lotR; rw [h2, hs.lo]; exact h.lo k, by rw [h2, hs.re]; exact h.re, by rw [h2]; exact h.nd, by rw [h2, hs.pa]; exact h.il, by rw [h2]; exact h.bd, by rw [h3, hs.pa]; exact h.ll, by rw [h2, hs.pa]; exact h.rl⟩
/-- without some of the items -/
def RS.woI (r : RS) (ids : List Int) : RS := ids.foldl RS.without r
theorem woI_take {r : RS} {ids : List Int} {i : Nat} {k : Int} (h : ids[i]? = some k) : r.woI (ids.take (i + 1)) = (r.woI (ids.take i)).without k := by
 unfold RS.woI
 rw [take_snoc h, List.foldl_append]; rfl
theorem woI_is : ∀ (ids : List Int) (r : RS), r.woI ids = { r with items := r.items.filter fun y => !ids.contains y.id }
 | [], r => by
  unfold RS.woI
  have : r.items.filter (fun y => !([] : List Int).contains y.id) = r.items := List.filter_eq_self.2 fun _ _ => rfl
  show r = _
  rw [this]
 | k :: ids, r => by
  have h1 : r.woI (k :: ids) = (r.without k).woI ids := rfl
  rw [h1, woI_is ids]
  unfold RS.without
  dsimp only
  congr 1
  rw [List.filter_filter]
  refine List.filter_congr fun y _ => ?_
  rw [List.contains_cons]
  cases h : ids.contains y.id <;> by_cases e : y.id = k <;> simp [e]
theorem woI_len (ids : List Int) (r : RS) : (r.woI ids).items.length ≤ r.items.length := by
 rw [woI_is]
 exact List.length_filter_le _ _
/-- the numbers of the items that are too old -/
def goneR (r : RS) (day : Int) (l : List Sheet) : List Int := (l.filter fun x => oldF r.rules x day).map (·.id)
theorem gone_take {r : RS} {day : Int} {l : List Sheet} {i : Nat} {x : Sheet} (h : l[i]? = some x) : goneR r day (l.take (i + 1)) = goneR r day (l.take i) ++ if oldF r.rules x day then [x.id] else [] := by
 unfold goneR
 rw [filter_take h, List.map_append]
 cases oldF r.rules x day <;> rfl
theorem gone_is {r : RS} {s : SS} (h : Rel r s) (hi : Inv s) (day : Int) : goneR r day r.items = expL s day := by
 unfold goneR expL
 rw [h.ru, h.items hi]
theorem rel_expire {r : RS} {s : SS} (h : Rel r s) (hi : Inv s) (day : Int) : Rel (r.woI (expL s day)) (expS s day) := by
 obtain ⟨a1, a2, a3, a4, a5⟩ := exp_all hi day
 rw [woI_is]
 refine h.same a2 rfl rfl rfl ?_ (by rw [a3]; exact h.pc)
 have e : r.items.filter (fun y => !(expL s day).contains y.id) = itemsL (expS s day) := by
  rw [a5, h.items hi]
  refine List.filter_congr fun y hy => ?_
  have hy' := ((items_shows hi).m y).1 hy
  cases ho : oldF s.rules y day with
  | true =>
   have : (expL s day).contains y.id = true := by
    rw [List.contains_iff_mem]
    exact List.mem_map.2 ⟨y, List.mem_filter.2 ⟨hy, ho⟩, rfl⟩
   rw [this]
  | false =>
   have : (expL s day).contains y.id = false := by
    rw [Bool.eq_false_iff]
    intro hc
    rw [List.contains_iff_mem] at hc
    obtain ⟨z, hz, he⟩ := List.mem_map.1 hc
    rw [List.mem_filter] at hz
    have hz' := ((items_shows hi).m z).1 hz.1
    rw [he, hy'] at hz'
    injection hz' with hz'
    rw [← hz', ho] at hz
    cases hz.2
   rw [this]
 show Shows Sheet.id (r.items.filter _) _
 rw [e]
 exact items_shows a1
/-- Recall's first loop -/
def recI (lot : Int) (l : List Sheet) (r : RS) : RS := l.foldl (fun q x => if x.lot = lot then q.without x.id else q) r
theorem recI_take {lot : Int} {l : List Sheet} {r : RS} {i : Nat} {x : Sheet} (h : l[i]? = some x) : recI lot (l.take (i + 1)) r = if x.lot = lot then (recI lot (l.take i) r).without x.id else recI lot (l.take i) r := by
 unfold recI
 rw [take_snoc h, List.foldl_append]; rfl
theorem recI_is (lot : Int) : ∀ (l : List Sheet) (r : RS), recI lot l r = { r with items := r.items.filter fun y => !(l.any fun x => decide (x.lot = lot) && decide (x.id = y.id)) }
 | [], r => by
  show r = _
  have : r.items.filter (fun y => !(([] : List Sheet).any fun x => decide (x.lot = lot) && decide (x.id = y.id))) = r.items := List.filter_eq_self.2 fun _ _ => rfl
  rw [this]
 | x :: l, r => by
  show recI lot l (if x.lot = lot then r.without x.id else r) = _
  rw [recI_is lot l]
  by_cases hl : x.lot = lot
  ·rw [if_pos hl]
   unfold RS.without
   dsimp only
   congr 1
   rw [List.filter_filter]
   refine List.filter_congr fun y _ => ?_
   rw [List.any_cons]
   by_cases e : y.id = x.id
   ·simp [e, hl]
   ·simp [e, hl, Ne.symm e]
  ·rw [if_neg hl]
   congr 1
   refine List.filter_congr fun y _ => ?_
   rw [List.any_cons]
   simp [hl]
/-- Recall's second loop -/
def recP (lot : Int) (l : List Piece) (r : RS) : RS := l.foldl (fun q x => if x.lot = lot ∧ x.use = 0 then q.dropped x.id else q) r
theorem recP_take {lot : Int} {l : List Piece} {r : RS} {i : Nat} {x : Piece} (h : l[i]? = some x) : recP lot (l.take (i + 1)) r = if x.lot = lot ∧ x.use = 0 then (recP lot (l.take i) r).dropped x.id else recP lot (l.take i) r := by
 unfold recP
 rw [take_snoc h, List.foldl_append]; rfl
theorem recP_is (lot : Int) : ∀ (l : List Piece) (r : RS), recP lot l r = { r with pieces := r.pieces.filter fun y => !(l.any fun x => (decide (x.lot = lot) && decide (x.use = 0)) && decide (x.id = y.id)) }
 | [], r => by
  show r = _
  have : r.pieces.filter (fun y => !(([] : List Piece).any fun x => (decide (x.lot = lot) && decide (x.use = 0)) && decide (x.id = y.id))) = r.pieces := List.filter_eq_self.2 fun _ _ => rfl
  rw [this]
 | x :: l, r => by
  show recP lot l (if x.lot = lot ∧ x.use = 0 then r.dropped x.id else r) = _
  rw [recP_is lot l]
  by_cases hl : x.lot = lot ∧ x.use = 0
  ·rw [if_pos hl]
   unfold RS.dropped
   dsimp only
   congr 1
   rw [List.filter_filter]
   refine List.filter_congr fun y _ => ?_
   rw [List.any_cons]
   by_cases e : y.id = x.id
   ·simp [e, hl]
   ·simp [e, hl, Ne.symm e]
  ·rw [if_neg hl]
   congr 1
   refine List.filter_congr fun y _ => ?_
   rw [List.any_cons]
   have : (decide (x.lot = lot) && decide (x.use = 0)) = false := by
    rw [Bool.eq_false_iff]
    intro hh
    simp only [Bool.and_eq_true, decide_eq_true_eq] at hh
    exact hl hh
   rw [this]; simp
theorem rel_recall {r : RS} {s : SS} (h : Rel r s) (hi : Inv s) (lot : Int) : Rel (recP lot r.pieces (recI lot r.items r)) (rec2 s lot) := by
 obtain ⟨a1, a2, a3, a4⟩ := rec_all hi lot
 rw [recI_is, recP_is]
 refine h.same a2 rfl rfl rfl ?_ ?_
 ·refine ⟨h.it.s.filter _, fun y => ?_⟩
  show y ∈ r.items.filter _ ↔ _
  rw [List.mem_filter, a3, h.it.m]
  refine and_congr_right fun hy => ?_
  simp only [Bool.not_eq_true', Bool.eq_false_iff, ne_eq, List.any_eq_true, Bool.and_eq_true, decide_eq_true_eq]
  constructor
  ·intro hn hl
   exact hn ⟨y, (h.it.m y).2 hy, hl, rfl⟩
  ·rintro hn ⟨z, hz, hzl, hzi⟩
   have := (h.it.m z).1 hz
   rw [hzi, hy] at this
   injection this with this
   rw [← this] at hzl
   exact hn hzl
 ·refine ⟨h.pc.s.filter _, fun y => ?_⟩
  show y ∈ r.pieces.filter _ ↔ _
  rw [List.mem_filter, a4, h.pc.m]
  refine and_congr_right fun hy => ?_
  simp only [Bool.not_eq_true', Bool.eq_false_iff, ne_eq, List.any_eq_true, Bool.and_eq_true, decide_eq_true_eq]
  constructor
  ·intro hn hl
   exact hn ⟨y, (h.pc.m y).2 hy, hl, rfl⟩
  ·rintro hn ⟨z, hz, hzl, hzi⟩
   have := (h.pc.m z).1 hz
   rw [hzi, hy] at this
   injection this with this
   rw [← this] at hzl
   exact hn hzl
/-- the uses, each once and ascending -/
def usesR (lot : Int) (l : List Piece) : List Int := ((l.filter fun x => decide (x.lot = lot) && !decide (x.use = 0)).map (·.use)).foldl putU []
theorem usesR_take {lot : Int} {l : List Piece} {i : Nat} {x : Piece} (h : l[i]? = some x) : usesR lot (l.take (i + 1)) = if x.lot = lot ∧ ¬ x.use = 0 then putU (usesR lot (l.take i)) x.use else usesR lot (l.take i) := by
 unfold usesR
 rw [filter_take h, List.map_append, List.foldl_append]
 by_cases hc : x.lot = lot ∧ ¬ x.use = 0
 ·rw [if_pos hc, if_pos (by simp [hc])]; rfl
 ·rw [if_neg hc, if_neg (by
   intro hh
   simp only [Bool.and_eq_true, decide_eq_true_eq, Bool.not_eq_true', decide_eq_false_iff_not] at hh
   exact hc hh)]; rfl
theorem uses_is {r : RS} {s : SS} (h : Rel r s) (hi : Inv s) (lot : Int) : usesR lot r.pieces = usesF (recU s lot) := by
 unfold usesR usesF recU
 rw [h.pieces hi, uses_same]
theorem usesR_len (lot : Int) : ∀ (l : List Piece), (usesR lot l).length ≤ l.length := by
 have put : ∀ (l : List Int) (n : Int), (putU l n).length ≤ l.length + 1 := fun l n => by
  unfold putU
  split
  ·omega
  ·rw [insG_len]; omega
 have fold : ∀ (us l : List Int), (us.foldl putU l).length ≤ us.length + l.length := by
  intro us
  induction us with
  | nil => intro l; simp
  | cons u us ih =>
   intro l
   have h1 := ih (putU l u)
   have h2 := put l u
   rw [List.foldl_cons, List.length_cons]
   omega
 intro l
 have h1 := fold ((l.filter fun x => decide (x.lot = lot) && !decide (x.use = 0)).map (·.use)) []
 have h2 := List.length_filter_le (fun x : Piece => decide (x.lot = lot) && !decide (x.use = 0)) l
 unfold usesR
 rw [List.length_map] at h1
 simp at h1
 omega
end Go.Proofs.YtehlbomkldnalaaGreat

/- The reference's chosen: the walk. -/
namespace Go.Proofs.YtehlbomkldnalaaGreat
open Go Go.RowKit
/-- the bounds of an item under which it is walked -/
structure ItB (x : Sheet) : Prop where
 g : 1 ≤ x.grade ∧ x.grade ≤ 3
 m : 0 ≤ x.made ∧ x.made ≤ 100000
 w : 1 ≤ x.width ∧ x.width ≤ 150
 l : 1 ≤ x.length ∧ x.length ≤ 6000
 n : x.faults.length ≤ 16
 f : ∀ q ∈ x.faults, 0 ≤ q.a ∧ q.a ≤ 6000 ∧ 0 ≤ q.b ∧ q.b ≤ 6000
theorem ItemOk.itb {s : SS} {x : Sheet} (h : ItemOk s x) : ItB x := ⟨h.g, h.m, h.w, h.l, h.n, fun q hq => by have := spans_mem h.f q hq; have := h.l; omega⟩
def ChPost (P : Nat → Prop) (n : Need) (o : Option Sheet) (w : World) (e : Ending) (w' : World) : Prop :=
 ∃ (g : SH) (at_ : Int), e = .returned (.tuple #[.agg ↑g, at_, .bool o.isSome]) ∧ (∀ b, o = some b → RsV w' P b g ∧ at_ = (clear b.length b.faults n.length).getD 0) ∧ Below w.heap.size w w'
theorem clear_is (l n : Int) (A : Option Addr) (c : Nat) (fs : List Pt) (w : World) (hl : l ≤ 9223372036854775807) (hlen : fs.length ≤ 100000) (hS : Slc Pt.enc 2 w w.heap.size A fs) (hI : ∀ x ∈ fs, -9223372036854775808 ≤ x.a ∧ x.a ≤ 9223372036854775807) (o : Option Int) (ho : clear l fs n = o) :
  Calls Tryz.prog 111 #[l, .slice A fs.length c, n] w fun e w' => e = .returned (.tuple #[.int .i64 (o.getD 0), .bool o.isSome]) ∧ Below w.heap.size w w' := by
 subst ho; exact refClear_any l n A c fs w hl hlen hS hI
set_option maxRecDepth 100000 in
set_option maxHeartbeats 8000000 in
theorem chosen_any (v : RV) (r : RS) (P : Nat → Prop) (n : Need) (lot day : Int) (w : World) (h : RAt w P v r) (hi : r.items.length ≤ 1000000) (hd : 0 ≤ day ∧ day ≤ 100000) (hb : ∀ x ∈ r.items, ItB x) :
  Calls Tryz.prog 90 #[.agg ↑v, lot, .agg ↑n, day] w (ChPost P n (pickL r.rules n lot day r.items) w) := by
 obtain ⟨ng, nq, nw, nl, nk⟩ := n
 dsimp only
 obtain ⟨hs, hL, hI⟩ := h.items
 have HNL : Hid (v.ni = hs.length) := h.ni.trans hI.len.symm
 have hhl : v.ni ≤ 1000000 := by rw [h.ni]; exact hi
 have HII := hide hI
 have HLE := hide hL
 have HLEN := hide hI.len
 have HIB := hide hb
 have HD := hide hd
 have HRU := hide h.ru
 have HH := hide h
 obtain ⟨hbx, hnx, hr0, hbest, hal, hsz⟩ := box4 w 38 45 93 93 ↑v #[ng, nq, nw, nl, nk] ↑zsA ↑zsA
 have HW := hide hal
 go_enter Tryz.func90, Tryz.ntmps90
 go_upto_region 2 with fail
 generalize (((w.alloc (.cells ↑v 38)).alloc (.cells #[ng, nq, nw, nl, nk] 45)).alloc (.cells ↑zsA 93)).alloc (.cells ↑zsA 93) = W0 at *
 have HL0 : Hid (Slc SH.enc 9 W0 W0.heap.size v.Ai hs) := Slc.on hL hal
 have HBX := hide hbx
 have HNX := hide hnx
 have HR0 := hide hr0
 have HSZ := hide hsz
 obtain ⟨rr, hrr⟩ := nm_ r.rules
 have HRR := hide hrr
 rw [hrr] at HRU
 have HZ : Hid ((↑zsA : Array Value) = (⟨0, 0, 0, 0, 0, 0, 0, 0, none, 0, 0⟩ : SH).enc.toArray) := rfl
 clear h hal hL hbx hnx hr0 hI hb hd hi hsz hrr
 go_upto_region 4 with fail
 go_loopw [12, 13, 14] (fun q f z wr => ∃ (i : Nat) (o : Option Sheet) (b : Bool) (g : SH) (at_ : Int), q = .int .i64 at_ ∧ f = .bool b ∧ z = .int .i64 i ∧ i ≤ v.ni ∧ Hid (o.isSome = b) ∧ Blk wr (w.heap.size + 3) 93 ↑g ∧ Hid (pickL rr ⟨ng, nq, nw, nl, nk⟩ lot day (r.items.take i) = o) ∧ Hid (∀ b, o = some b → RsV w P b g ∧ at_ = (clear b.length b.faults nl).getD 0) ∧ Below (w.heap.size + 3) W0 wr) (fun _ _ z _ => v.ni - (intOf z).toNat)
 case atStart => exact ⟨0, none, false, ⟨0, 0, 0, 0, 0, 0, 0, 0, none, 0, 0⟩, 0, rfl, rfl, rfl, Nat.zero_le _, rfl, hbest, (rfl : Hid _), (by intro b hb; cases hb), Below.refl _ _⟩
 case round =>
  clear hbest
  obtain ⟨W, rfl⟩ := is_ wr
  obtain ⟨i, o, b, g, at_, rfl, rfl, rfl, hi, HOB, hbest, HPK, HBR, hB⟩ := hrel
  have hBs : w.heap.size + 3 ≤ W.heap.size := by have h1 := hB.size; have h2 := HSZ.out; omega
  have hbx := HBX.out.below hB (by omega)
  have c6 := hbx.cell_ 6 (v := .slice v.Ai v.ni v.ci) rfl
  by_cases hlt : i < v.ni
  ·obtain ⟨x, hx⟩ : ∃ x, r.items[i]? = some x := ⟨_, List.getElem?_eq_getElem (by rw [← HH.out.ni]; exact hlt)⟩
   obtain ⟨A', c', hh, hv⟩ := HII.out.at_ hx
   have HBW : Hid (Below w.heap.size w W) := HW.out.trans (hB.mono (by omega))
   have hLW := Slc.on HLE.out HBW.out
   obtain ⟨b1, o1, hA1, _, d0, d1, d2, d3, d4, d5, d6, d7, d8⟩ := sh_at hLW hh
   have hii : (i : Int) < (v.ni : Int) := by omega
   have ei := wsuc i (by omega)
   have HPT := hide (pickL_take (r := rr) (n := ⟨ng, nq, nw, nl, nk⟩) (lot := lot) (day := day) hx)
   have HX := hide (HIB.out x (List.mem_of_getElem? hx))
   have HV := hide hv
   rw [hA1] at c6
   clear hx hh hLW hA1 hv hbx
   have hxb := Blk.new W 93 ↑(x, A', c')
   have hal := (Below.refl (w.heap.size + 3) W).alloc hBs (.cells ↑(x, A', c') 93)
   replace hbest := hbest.alloc (.cells ↑(x, A', c') 93)
   replace hB := hB.trans hal
   go_upto_region 7 with fail
   clear c6 d0 d1 d2 d3 d4 d5 d6 d7 d8 hal HBW
   generalize hWn : W.heap.size = bx at *
   generalize W.alloc (.cells ↑(x, A', c') 93) = W3 at *
   clear hWn
   by_cases h1 : x.lot = lot
   case neg =>
    have HP2 : Hid (pickL rr ⟨ng, nq, nw, nl, nk⟩ lot day (r.items.take (i + 1)) = o) := by
     show _ = _
     rw [HPT.out, HPK.out]
     unfold pickS
     rw [if_neg (by rw [show candR rr ⟨ng, nq, nw, nl, nk⟩ lot day x = false from by unfold candR; simp [h1]]; decide)]
    have hbx := HBX.out.below hB (by omega)
    obtain ⟨c0, c1, c2, c3, c4, c5, c6, c7, c8⟩ := hbx.all9
    have hnx := HNX.out.below hB (by omega)
    have y0 := hnx.cell_ 0 (v := ng) rfl
    have y1 := hnx.cell_ 1 (v := nq) rfl
    have y2 := hnx.cell_ 2 (v := nw) rfl
    have y3 := hnx.cell_ 3 (v := nl) rfl
    obtain ⟨e0, e1, e2, e3, e4, e5, e6, e7, e8⟩ := hxb.all9
    clear hbx hnx
    go_wp2_with fail
    clear c0 c1 c2 c3 c4 c5 c6 c7 c8 y0 y1 y2 y3 e0 e1 e2 e3 e4 e5 e6 e7 e8
    go_roundw
    case rel => exact ⟨i + 1, o, b, g, at_, rfl, rfl, by go_num, by omega, HOB, hbest, HP2, HBR, hB⟩
    case measure => simp [intOf]; omega
   subst h1
   by_cases h2 : x.grade = ng
   case neg =>
    have HP2 : Hid (pickL rr ⟨ng, nq, nw, nl, nk⟩ x.lot day (r.items.take (i + 1)) = o) := by
     show _ = _
     rw [HPT.out, HPK.out]
     unfold pickS
     rw [if_neg (by rw [show candR rr ⟨ng, nq, nw, nl, nk⟩ x.lot day x = false from by unfold candR; simp [h2]]; decide)]
    have hbx := HBX.out.below hB (by omega)
    obtain ⟨c0, c1, c2, c3, c4, c5, c6, c7, c8⟩ := hbx.all9
    have hnx := HNX.out.below hB (by omega)
    have y0 := hnx.cell_ 0 (v := ng) rfl
    have y1 := hnx.cell_ 1 (v := nq) rfl
    have y2 := hnx.cell_ 2 (v := nw) rfl
    have y3 := hnx.cell_ 3 (v := nl) rfl
    obtain ⟨e0, e1, e2, e3, e4, e5, e6, e7, e8⟩ := hxb.all9
    clear hbx hnx
    go_wp2_with fail
    clear c0 c1 c2 c3 c4 c5 c6 c7 c8 y0 y1 y2 y3 e0 e1 e2 e3 e4 e5 e6 e7 e8
    go_roundw
    case rel => exact ⟨i + 1, o, b, g, at_, rfl, rfl, by go_num, by omega, HOB, hbest, HP2, HBR, hB⟩
    case measure => simp [intOf]; omega
   subst h2
   by_cases h3 : x.colour = nq
   case neg =>
    have HP2 : Hid (pickL rr ⟨x.grade, nq, nw, nl, nk⟩ x.lot day (r.items.take (i + 1)) = o) := by
     show _ = _
     rw [HPT.out, HPK.out]
     unfold pickS
     rw [if_neg (by rw [show candR rr ⟨x.grade, nq, nw, nl, nk⟩ x.lot day x = false from by unfold candR; simp [h3]]; decide)]
    have hbx := HBX.out.below hB (by omega)
    obtain ⟨c0, c1, c2, c3, c4, c5, c6, c7, c8⟩ := hbx.all9
    have hnx := HNX.out.below hB (by omega)
    have y0 := hnx.cell_ 0 (v := x.grade) rfl
    have y1 := hnx.cell_ 1 (v := nq) rfl
    have y2 := hnx.cell_ 2 (v := nw) rfl
    have y3 := hnx.cell_ 3 (v := nl) rfl
    obtain ⟨e0, e1, e2, e3, e4, e5, e6, e7, e8⟩ := hxb.all9
    clear hbx hnx
    go_wp2_with fail
    clear c0 c1 c2 c3 c4 c5 c6 c7 c8 y0 y1 y2 y3 e0 e1 e2 e3 e4 e5 e6 e7 e8
    go_roundw
    case rel => exact ⟨i + 1, o, b, g, at_, rfl, rfl, by go_num, by omega, HOB, hbest, HP2, HBR, hB⟩
    case measure => simp [intOf]; omega
   subst h3
   by_cases h4 : x.made ≤ day
   case neg =>
    have HP2 : Hid (pickL rr ⟨x.grade, x.colour, nw, nl, nk⟩ x.lot day (r.items.take (i + 1)) = o) := by
     show _ = _
     rw [HPT.out, HPK.out]
     unfold pickS
     rw [if_neg (by rw [show candR rr ⟨x.grade, x.colour, nw, nl, nk⟩ x.lot day x = false from by unfold candR; simp [h4]]; decide)]
    have hbx := HBX.out.below hB (by omega)
    obtain ⟨c0, c1, c2, c3, c4, c5, c6, c7, c8⟩ := hbx.all9
    have hnx := HNX.out.below hB (by omega)
    have y0 := hnx.cell_ 0 (v := x.grade) rfl
    have y1 := hnx.cell_ 1 (v := x.colour) rfl
    have y2 := hnx.cell_ 2 (v := nw) rfl
    have y3 := hnx.cell_ 3 (v := nl) rfl
    obtain ⟨e0, e1, e2, e3, e4, e5, e6, e7, e8⟩ := hxb.all9
    clear hbx hnx
    have h4' : day < x.made := by omega
    go_wp2_with fail
    clear c0 c1 c2 c3 c4 c5 c6 c7 c8 y0 y1 y2 y3 e0 e1 e2 e3 e4 e5 e6 e7 e8
    go_roundw
    case rel => exact ⟨i + 1, o, b, g, at_, rfl, rfl, by go_num, by omega, HOB, hbest, HP2, HBR, hB⟩
    case measure => simp [intOf]; omega
   have h4' : ¬ day < x.made := by omega
   have hbx := HBX.out.below hB (by omega)
   obtain ⟨c0, c1, c2, c3, c4, c5, c6, c7, c8⟩ := hbx.all9
   have hnx := HNX.out.below hB (by omega)
   have y0 := hnx.cell_ 0 (v := x.grade) rfl
   have y1 := hnx.cell_ 1 (v := x.colour) rfl
   have y2 := hnx.cell_ 2 (v := nw) rfl
   have y3 := hnx.cell_ 3 (v := nl) rfl
   obtain ⟨e0, e1, e2, e3, e4, e5, e6, e7, e8⟩ := hxb.all9
   clear hbx hnx
   cases hq : oldF rr x day with
   | true =>
    have HP2 : Hid (pickL rr ⟨x.grade, x.colour, nw, nl, nk⟩ x.lot day (r.items.take (i + 1)) = o) := by
     show _ = _
     rw [HPT.out, HPK.out]
     unfold pickS
     rw [if_neg (by rw [show candR rr ⟨x.grade, x.colour, nw, nl, nk⟩ x.lot day x = false from by unfold candR; simp [hq]]; decide)]
    go_wp2_with fail
    refine (rold_any v (SH.of x A' c') day _ HX.out.g HX.out.m HD.out (v0 := true) (by rw [← HRU.out]; exact hq)).mono ?_
    rintro e W4 ⟨rfl, hb⟩
    clear c0 c1 c2 c3 c4 c5 c6 c7 c8 y0 y1 y2 y3 e0 e1 e2 e3 e4 e5 e6 e7 e8
    replace hbest := hbest.below hb hbest.lt
    replace hxb := hxb.below hb hxb.lt
    replace hB := hB.trans (hb.mono (by have := hB.size; have := HSZ.out; omega))
    clear hb
    go_wp2_with fail
    go_roundw
    case rel => exact ⟨i + 1, o, b, g, at_, rfl, rfl, by go_num, by omega, HOB, hbest, HP2, HBR, hB⟩
    case measure => simp [intOf]; omega
   | false =>
    go_wp2_with fail
    refine (rold_any v (SH.of x A' c') day _ HX.out.g HX.out.m HD.out (v0 := false) (by rw [← HRU.out]; exact hq)).mono ?_
    rintro e W4 ⟨rfl, hb⟩
    clear c0 c1 c2 c3 c4 c5 c6 c7 c8 y0 y1 y2 y3 e0 e1 e2 e3 e4 e5 e6 e7 e8
    replace hbest := hbest.below hb hbest.lt
    replace hxb := hxb.below hb hxb.lt
    replace hB := hB.trans (hb.mono (by have := hB.size; have := HSZ.out; omega))
    clear hb
    have hbx := HBX.out.below hB (by omega)
    obtain ⟨c0, c1, c2, c3, c4, c5, c6, c7, c8⟩ := hbx.all9
    have hnx := HNX.out.below hB (by omega)
    have y0 := hnx.cell_ 0 (v := x.grade) rfl
    have y1 := hnx.cell_ 1 (v := x.colour) rfl
    have y2 := hnx.cell_ 2 (v := nw) rfl
    have y3 := hnx.cell_ 3 (v := nl) rfl
    obtain ⟨e0, e1, e2, e3, e4, e5, e6, e7, e8⟩ := hxb.all9
    clear hbx hnx
    by_cases h6 : nw ≤ x.width
    case neg =>
     have HP2 : Hid (pickL rr ⟨x.grade, x.colour, nw, nl, nk⟩ x.lot day (r.items.take (i + 1)) = o) := by
      show _ = _
      rw [HPT.out, HPK.out]
      unfold pickS
      rw [if_neg (by rw [show candR rr ⟨x.grade, x.colour, nw, nl, nk⟩ x.lot day x = false from by unfold candR; simp [h6]]; decide)]
     have h6' : x.width < nw := by omega
     go_wp2_with fail
     clear c0 c1 c2 c3 c4 c5 c6 c7 c8 y0 y1 y2 y3 e0 e1 e2 e3 e4 e5 e6 e7 e8
     go_roundw
     case rel => exact ⟨i + 1, o, b, g, at_, rfl, rfl, by go_num, by omega, HOB, hbest, HP2, HBR, hB⟩
     case measure => simp [intOf]; omega
    have h6' : ¬ x.width < nw := by omega
    cases hc : clear x.length x.faults nl with
    | none =>
     have HP2 : Hid (pickL rr ⟨x.grade, x.colour, nw, nl, nk⟩ x.lot day (r.items.take (i + 1)) = o) := by
      show _ = _
      rw [HPT.out, HPK.out]
      unfold pickS
      rw [if_neg (by rw [show candR rr ⟨x.grade, x.colour, nw, nl, nk⟩ x.lot day x = false from by unfold candR; simp [hc]]; decide)]
     go_wp2_with fail
     refine (clear_is x.length nl A' c' x.faults _ (by have := HX.out.l; omega) (by have := HX.out.n; omega) (Slc.on HV.out.slc.1 (HW.out.trans (hB.mono (by omega)))) (fun q hq => by have := HX.out.f q hq; omega) none hc).mono ?_
     rintro e W5 ⟨rfl, hb⟩
     clear c0 c1 c2 c3 c4 c5 c6 c7 c8 y0 y1 y2 y3 e0 e1 e2 e3 e4 e5 e6 e7 e8
     replace hbest := hbest.below hb hbest.lt
     replace hxb := hxb.below hb hxb.lt
     replace hB := hB.trans (hb.mono (by have := hB.size; have := HSZ.out; omega))
     clear hb
     go_wp2_with fail
     go_roundw
     case rel => exact ⟨i + 1, o, b, g, at_, rfl, rfl, by go_num, by omega, HOB, hbest, HP2, HBR, hB⟩
     case measure => simp [intOf]; omega
    | some p =>
     go_wp2_with fail
     refine (clear_is x.length nl A' c' x.faults _ (by have := HX.out.l; omega) (by have := HX.out.n; omega) (Slc.on HV.out.slc.1 (HW.out.trans (hB.mono (by omega)))) (fun q hq => by have := HX.out.f q hq; omega) (some p) hc).mono ?_
     rintro e W5 ⟨rfl, hb⟩
     clear c0 c1 c2 c3 c4 c5 c6 c7 c8 y0 y1 y2 y3 e0 e1 e2 e3 e4 e5 e6 e7 e8
     replace hbest := hbest.below hb hbest.lt
     replace hxb := hxb.below hb hxb.lt
     replace hB := hB.trans (hb.mono (by have := hB.size; have := HSZ.out; omega))
     clear hb
     have hbx := HBX.out.below hB (by omega)
     obtain ⟨c0, c1, c2, c3, c4, c5, c6, c7, c8⟩ := hbx.all9
     have hnx := HNX.out.below hB (by omega)
     have y0 := hnx.cell_ 0 (v := x.grade) rfl
     have y1 := hnx.cell_ 1 (v := x.colour) rfl
     have y2 := hnx.cell_ 2 (v := nw) rfl
     have y3 := hnx.cell_ 3 (v := nl) rfl
     obtain ⟨e0, e1, e2, e3, e4, e5, e6, e7, e8⟩ := hxb.all9
     clear hbx hnx
     obtain ⟨hbs0, hbs1, hbs2, hbs3, hbs4, hbs5, hbs6, hbs7, hbs8⟩ := hbest.all9
     cases o with
     | none =>
      obtain rfl : false = b := HOB.out
      clear hbs0 hbs1 hbs2 hbs3 hbs4 hbs5 hbs6 hbs7 hbs8
      have HP2 : Hid (pickL rr ⟨x.grade, x.colour, nw, nl, nk⟩ x.lot day (r.items.take (i + 1)) = some x) := by
       show _ = _
       rw [HPT.out, HPK.out]
       unfold pickS
       rw [if_pos (by unfold candR; simp [h4, hq, h6, hc])]
       all_goals rfl
      go_wp2_with (refine wpList_store_blk rfl 93 _ _ rfl ↑(x, A', c') hbest rfl rfl (by kernel_rfl) rfl (by simp [Value.oneCell']) ?_; intro W9 hbest9 hc9)
      have hb9 : Blk W9 (w.heap.size + 3) 93 (SH.of x A' c').enc.toArray := hbest9
      replace hB := hB.trans (hc9.below1 (B := w.heap.size + 3) (by have := hB.size; have := HSZ.out; omega) (Nat.le_refl _))
      have HBR2 : Hid (∀ b, some x = some b → RsV w P b (SH.of x A' c') ∧ p = (clear b.length b.faults nl).getD 0) := by
       intro b hb
       injection hb with hb
       subst hb
       exact ⟨HV.out, by rw [hc]; rfl⟩
      clear c0 c1 c2 c3 c4 c5 c6 c7 c8 y0 y1 y2 y3 e0 e1 e2 e3 e4 e5 e6 e7 e8
      clear hbest hbest9 hc9 hxb hc hq
      go_roundw
      case rel => exact ⟨i + 1, some x, true, SH.of x A' c', p, rfl, rfl, by go_num, by omega, (rfl : Hid _), hb9, HP2, HBR2, hB⟩
      case measure => simp [intOf]; omega
     | some bo =>
      obtain rfl : true = b := HOB.out
      have HLB : Hid (lessH (SH.of x A' c') g = lessS x bo) := lessH_eq HV.out (HBR.out bo rfl).1
      cases hlb : lessS x bo with
      | true =>
       go_wp2_with fail
       refine (smaller_any (SH.of x A' c') g _ (b := true) (by rw [HLB.out]; exact hlb)).mono ?_
       rintro e W6 ⟨rfl, hb⟩
       clear c0 c1 c2 c3 c4 c5 c6 c7 c8 y0 y1 y2 y3 e0 e1 e2 e3 e4 e5 e6 e7 e8
       clear hbs0 hbs1 hbs2 hbs3 hbs4 hbs5 hbs6 hbs7 hbs8
       replace hbest := hbest.below hb hbest.lt
       replace hxb := hxb.below hb hxb.lt
       replace hB := hB.trans (hb.mono (by have := hB.size; have := HSZ.out; omega))
       clear hb
       have hbx := HBX.out.below hB (by omega)
       obtain ⟨c0, c1, c2, c3, c4, c5, c6, c7, c8⟩ := hbx.all9
       have hnx := HNX.out.below hB (by omega)
       have y0 := hnx.cell_ 0 (v := x.grade) rfl
       have y1 := hnx.cell_ 1 (v := x.colour) rfl
       have y2 := hnx.cell_ 2 (v := nw) rfl
       have y3 := hnx.cell_ 3 (v := nl) rfl
       obtain ⟨e0, e1, e2, e3, e4, e5, e6, e7, e8⟩ := hxb.all9
       clear hbx hnx
       have HP2 : Hid (pickL rr ⟨x.grade, x.colour, nw, nl, nk⟩ x.lot day (r.items.take (i + 1)) = some x) := by
        show _ = _
        rw [HPT.out, HPK.out]
        unfold pickS
        rw [if_pos (by unfold candR; simp [h4, hq, h6, hc])]
        all_goals (dsimp only; rw [hlb]; rfl)
       go_wp2_with (refine wpList_store_blk rfl 93 _ _ rfl ↑(x, A', c') hbest rfl rfl (by kernel_rfl) rfl (by simp [Value.oneCell']) ?_; intro W9 hbest9 hc9)
       have hb9 : Blk W9 (w.heap.size + 3) 93 (SH.of x A' c').enc.toArray := hbest9
       replace hB := hB.trans (hc9.below1 (B := w.heap.size + 3) (by have := hB.size; have := HSZ.out; omega) (Nat.le_refl _))
       have HBR2 : Hid (∀ b, some x = some b → RsV w P b (SH.of x A' c') ∧ p = (clear b.length b.faults nl).getD 0) := by
        intro b hb
        injection hb with hb
        subst hb
        exact ⟨HV.out, by rw [hc]; rfl⟩
       clear c0 c1 c2 c3 c4 c5 c6 c7 c8 y0 y1 y2 y3 e0 e1 e2 e3 e4 e5 e6 e7 e8
       clear hbest hbest9 hc9 hxb hc hq
       go_roundw
       case rel => exact ⟨i + 1, some x, true, SH.of x A' c', p, rfl, rfl, by go_num, by omega, (rfl : Hid _), hb9, HP2, HBR2, hB⟩
       case measure => simp [intOf]; omega
      | false =>
       have HP2 : Hid (pickL rr ⟨x.grade, x.colour, nw, nl, nk⟩ x.lot day (r.items.take (i + 1)) = some bo) := by
        show _ = _
        rw [HPT.out, HPK.out]
        unfold pickS
        rw [if_pos (by unfold candR; simp [h4, hq, h6, hc])]
        all_goals (dsimp only; rw [hlb]; rfl)
       go_wp2_with fail
       refine (smaller_any (SH.of x A' c') g _ (b := false) (by rw [HLB.out]; exact hlb)).mono ?_
       rintro e W6 ⟨rfl, hb⟩
       clear c0 c1 c2 c3 c4 c5 c6 c7 c8 y0 y1 y2 y3 e0 e1 e2 e3 e4 e5 e6 e7 e8
       clear hbs0 hbs1 hbs2 hbs3 hbs4 hbs5 hbs6 hbs7 hbs8
       replace hbest := hbest.below hb hbest.lt
       replace hxb := hxb.below hb hxb.lt
       replace hB := hB.trans (hb.mono (by have := hB.size; have := HSZ.out; omega))
       clear hb
       go_wp2_with fail
       go_roundw
       case rel => exact ⟨i + 1, some bo, true, g, at_, rfl, rfl, by go_num, by omega, (rfl : Hid _), hbest, HP2, HBR, hB⟩
       case measure => simp [intOf]; omega
  ·obtain rfl : i = v.ni := by omega
   have HPE : Hid (pickL rr ⟨ng, nq, nw, nl, nk⟩ lot day r.items = o) := by
    show _ = _
    rw [← HPK.out, List.take_of_length_le (by rw [HH.out.ni]; exact Nat.le_refl _)]
   have hr := HR0.out.below hB (by omega)
   obtain ⟨g0, g1, g2, g3, g4, g5, g6, g7, g8⟩ := hbest.all9
   go_wp2_with (refine wpList_store_blk rfl 93 _ _ rfl ↑g hr rfl rfl (by kernel_rfl) rfl (by simp [Value.oneCell']) ?_; intro W9 hr9 hc9; obtain ⟨q0, q1, q2, q3, q4, q5, q6, q7, q8⟩ := hr9.all9)
   have hB9 : Below w.heap.size w W9 := (HW.out.trans (hB.mono (by omega))).trans (hc9.below1 (B := w.heap.size) (by have := hB.size; have := HSZ.out; omega) (by omega))
   refine bodyPost_ret (v := .tuple #[.agg ↑g, at_, .bool b]) (by simp [results, Tryz.results90, go_sem, q0, q1, q2, q3, q4, q5, q6, q7, q8]) rfl ?_
   rw [HRR.out, HPE.out]
   exact ⟨g, at_, by rw [HOB.out], fun bo hbo => ⟨(HBR.out bo hbo).1.below hB9, (HBR.out bo hbo).2⟩, hB9⟩
end Go.Proofs.YtehlbomkldnalaaGreat

/- A row of structs that is one's own: its block, and stores into it. -/
namespace Go.Proofs.YtehlbomkldnalaaGreat
open Go Go.RowKit
theorem own_blkF {α : Type} {f : α → List Value} {sz : Nat} {w : World} {base : Nat} {e : TypeId} {A : Option Addr} {c : Nat} {l : List α} {n : Nat} (h : Own w base e sz f (.slice A n c) l) (hl : l ≠ []) : ∃ b js, A = some ⟨b, 0, none⟩ ∧ base ≤ b ∧ Blk w b e (l.flatMap f ++ js).toArray := by
 rcases h.2 with ⟨_, h2⟩ | ⟨b, cap, cur, h1, h2, h3, _, _, _, h7⟩
 ·exact absurd (List.length_eq_zero_iff.1 h2) hl
 ·injection h1 with h1 _ _
  refine ⟨b, cur.toList.drop (l.length * sz), h1, h2, ?_⟩
  show _ = _
  rw [h3, ← h7, List.take_append_drop]
theorem blkF_get {α : Type} {f : α → List Value} {n : Nat} (hf : ∀ x, (f x).length = n) {l : List α} {js : List Value} {i j : Nat} {x : α} (hx : l[i]? = some x) {v : Value} (hv : (f x)[j]? = some v) : (l.flatMap f ++ js).toArray[i * n + j]? = some v := by
 have h1 := flat_at hf l i x hx j v hv
 rw [List.getElem?_toArray, List.getElem?_append_left (List.getElem?_eq_some_iff.1 h1).1]
 exact h1
theorem flat_set {α : Type} {f : α → List Value} {n : Nat} (hf : ∀ x, (f x).length = n) : ∀ {l : List α} {js : List Value} {q j : Nat} {x x' : α} {v : Value}, l[q]? = some x → j < n → f x' = (f x).set j v → (l.flatMap f ++ js).set (q * n + j) v = (l.set q x').flatMap f ++ js
 | [], _, _, _, _, _, _, h, _, _ => by simp at h
 | y :: r, js, 0, j, x, x', v, h, hj, he => by
  simp at h
  subst h
  rw [List.set_cons_zero, List.flatMap_cons, List.flatMap_cons, List.append_assoc, List.append_assoc, Nat.zero_mul, Nat.zero_add, List.set_append_left _ _ (by rw [hf]; exact hj), he]
 | y :: r, js, q + 1, j, x, x', v, h, hj, he => by
  simp at h
  rw [List.set_cons_succ, List.flatMap_cons, List.flatMap_cons, List.append_assoc, List.append_assoc, List.set_append_right _ _ (by rw [hf, Nat.succ_mul]; omega), hf, show (q + 1) * n + j - n = q * n + j by rw [Nat.succ_mul]; omega, flat_set hf h hj he]
theorem own_putF {α : Type} {f : α → List Value} {sz : Nat} {w w' : World} {base b cap n : Nat} {e : TypeId} {l l' : List α} {js : List Value} (hf : ∀ x, (f x).length = sz) (h : Own w base e sz f (.slice (some ⟨b, 0, none⟩) n cap) l) (hl : l'.length = l.length) (hw : Blk w b e (l.flatMap f ++ js).toArray) (hw' : Blk w' b e (l'.flatMap f ++ js).toArray) : Own w' base e sz f (.slice (some ⟨b, 0, none⟩) n cap) l' := by
 refine ⟨flat_len hf l', .inr ?_⟩
 have hfl : (l'.flatMap f).length = (l.flatMap f).length := by rw [flat_len hf, flat_len hf, hl]
 rcases h.2 with ⟨h1, _⟩ | ⟨g, cap', cur, h1, h2, h3, h4, h5, h6, h7⟩
 ·cases h1
 ·injection h1 with h1 h8 h9
  injection h1 with h1
  injection h1 with h1
  subst h1 h8 h9
  have ec : cur = (l.flatMap f ++ js).toArray := by
   have h10 : w.heap[b]? = some (Obj.cells (l.flatMap f ++ js).toArray e (0, 0)) := hw
   rw [h3] at h10
   injection h10 with h10
   injection h10
  subst ec
  refine ⟨b, cap, _, by rw [hl], h2, hw', by omega, h5, ?_, ?_⟩
  ·rw [← h6]
   simp only [List.size_toArray, List.length_append, hfl]
  ·rw [List.take_append_of_le_length (by rw [flat_len hf]; exact Nat.le_refl _)]
   exact List.take_of_length_le (by rw [flat_len hf]; exact Nat.le_refl _)
end Go.Proofs.YtehlbomkldnalaaGreat

/- The reference's Trace: the walk. -/
namespace Go.Proofs.YtehlbomkldnalaaGreat
open Go Go.RowKit
theorem rtrace_none (v : RV) (r : RS) (s : SS) (P : Nat → Prop) (id : Int) (w : World) (h : RAt w P v r) (hR : Rel r s) (hI : Inv s) (hF : Few s) (hn : look s.parent id = none) :
  Calls Tryz.prog 35 #[.agg ↑v, id] w fun e w' => e = .returned (.tuple #[.slice none 0 0, .int .i64 5]) ∧ Below w.heap.size w w' := by
 have HLN := hide (hR.lens hI hF)
 obtain ⟨hb, hal, hsz⟩ := box1 w 38 ↑v
 have HW := hide hal
 have HH := hide (h.below hal)
 have HLK := hide ((hR.lk id).trans hn)
 clear hR hI hF h hn
 go_enter Tryz.func35, Tryz.ntmps35
 go_upto_region 1 with fail
 generalize w.alloc (.cells ↑v 38) = W at *
 obtain ⟨c0, c1, c2, c3, c4, c5, c6, c7, c8⟩ := hb.all9
 clear hb hal hsz
 go_wp2_with fail
 refine (parent_any v r _ id W HH.out HLN.out.2.2.1 none HLK.out).mono ?_
 rintro e W1 ⟨rfl, hb1⟩
 have hB := HW.out.trans (hb1.mono HW.out.size)
 clear c0 c1 c2 c3 c4 c5 c6 c7 c8
 clear hb1
 go_wp2_with fail
 go_ret2
 exact ⟨rfl, hB⟩
set_option maxRecDepth 100000 in
set_option maxHeartbeats 4000000 in
theorem rtrace_any (v : RV) (r : RS) (s : SS) (P : Nat → Prop) (id : Int) (l : List Int) (w : World) (h : RAt w P v r) (hR : Rel r s) (hI : Inv s) (hF : Few s) (hC : Chain s id l) :
  Calls Tryz.prog 35 #[.agg ↑v, id] w fun e w' => ∃ A c, e = .returned (.tuple #[.slice A l.length c, .int .i64 0]) ∧ Slc intEnc 1 w' w'.heap.size A l ∧ Below w.heap.size w w' := by
 have HLN := hide (hR.lens hI hF)
 have HR := hide hR
 have HI := hide hI
 have HLL := hide (Nat.le_trans (hC.len hI) hF.pa)
 obtain ⟨u, rst, hu, hl, hc⟩ := hC.next
 have HL := hide hl
 have HC := hide hc
 have HU := hide (hI.pa _ _ hu).2
 have HLK := hide ((hR.lk id).trans hu)
 obtain ⟨hb, hal, hsz⟩ := box1 w 38 ↑v
 have HW := hide hal
 have HH := hide (h.below hal)
 clear hR hI hF h hu hl hc hC
 go_enter Tryz.func35, Tryz.ntmps35
 go_upto_region 1 with fail
 generalize w.alloc (.cells ↑v 38) = W at *
 have HB := hide hb
 obtain ⟨c0, c1, c2, c3, c4, c5, c6, c7, c8⟩ := hb.all9
 clear hb hal hsz
 go_wp2_with fail
 refine (parent_any v r _ id W HH.out HLN.out.2.2.1 (some u) HLK.out).mono ?_
 rintro e W1 ⟨rfl, hb1⟩
 clear c0 c1 c2 c3 c4 c5 c6 c7 c8
 go_upto_region 5 with fail
 have hO := Own.one_ (base := W.heap.size) (Blk.new W1 3 #[id]) hb1.size
 have hB := hb1.trans ((Below.refl W1.heap.size W1).alloc (Nat.le_refl _) (.cells #[id] 3) |>.mono hb1.size)
 generalize W1.alloc (.cells #[id] 3) = W2 at *
 clear hb1
 go_loopw [6, 8] (fun z y wr => ∃ (up : Int) (out rest : List Int), z = .int .i64 up ∧ Own wr W.heap.size 3 1 intEnc y out ∧ Hid (out ++ rest = l) ∧ Hid ((up = 0 ∧ rest = []) ∨ (up ≠ 0 ∧ Chain s up rest)) ∧ Hid (0 ≤ up) ∧ Below W.heap.size W wr) (fun z _ _ => (intOf z).toNat)
 case atStart => exact ⟨u, [id], rst, rfl, hO, (by show _ = _; rw [HL.out]; rfl : Hid _), HC, (by show _ ≤ _; rcases HU.out with h | h <;> omega : Hid _), hB⟩
 case round =>
  clear hO hB HC HU
  obtain ⟨Wc, rfl⟩ := is_ wr
  obtain ⟨up, out, rest, rfl, hO, HO, HC, H0, hB⟩ := hrel
  by_cases hz : up = 0
  ·have HRR : Hid (out = l) := by
    show out = l
    rcases HC.out with ⟨_, h⟩ | ⟨h, _⟩
    ·rw [← HO.out, h, List.append_nil]
    ·exact absurd hz h
   have hzn : (up != 0) = false := by simp [hz]
   have hB9 := HW.out.trans (hB.mono HW.out.size)
   obtain ⟨A, c, rfl, hsl⟩ := hO.form (fun _ => rfl)
   clear hO
   go_wp2_with fail
   go_ret2
   exact ⟨A, c, by rw [← HRR.out]; rfl, by rw [← HRR.out]; exact hsl, hB9⟩
  ·have hzn : (up != 0) = true := by simp [hz]
   obtain ⟨u2, r2, hu2, hl2, hc2⟩ : ∃ u r, look s.parent up = some u ∧ rest = up :: r ∧ ((u = 0 ∧ r = []) ∨ (u ≠ 0 ∧ Chain s u r)) := by
    rcases HC.out with ⟨h, _⟩ | ⟨_, h⟩
    ·exact absurd h hz
    ·exact h.next
   have HP := hide (HI.out.pa _ _ hu2)
   have HO2 : Hid (out ++ [up] ++ r2 = l) := by show _ = _; rw [List.append_assoc, List.singleton_append, ← hl2]; exact HO.out
   have HC2 := hide hc2
   have hll : out.length ≤ 1000000 := by
    have h1 := congrArg List.length HO.out
    rw [List.length_append] at h1
    have := HLL.out
    omega
   have HKU := hide ((HR.out.lk up).trans hu2)
   clear hu2 hl2 hc2
   have hsz := hB.size
   go_upto_region 7 with (at_builtin; refine wpList_app_own (base := W.heap.size) (f := intEnc) (ys := [up]) _ _ rfl rfl et_ints (hO.alloc _) rfl rfl ((Blk.new Wc 3 #[up]).slc1 rfl) rfl (fun _ => rfl) intEnc_one (by simp <;> omega) (by simp <;> omega) ?_; intro v6 W6 hO6 hb6 hg6)
   have hal := (Below.refl Wc.heap.size Wc).alloc (Nat.le_refl _) (.cells #[up] 3)
   replace hB := (hB.trans (hal.mono hB.size)).trans hb6
   clear hO hal hb6 hg6 hsz
   have hbx := HB.out.below hB HB.out.lt
   obtain ⟨c0, c1, c2, c3, c4, c5, c6, c7, c8⟩ := hbx.all9
   clear hbx
   go_wp2_with fail
   refine (parent_any v r _ up W6 (HH.out.below hB) HLN.out.2.2.1 (some u2) HKU.out).mono ?_
   rintro e W7 ⟨rfl, hb7⟩
   clear c0 c1 c2 c3 c4 c5 c6 c7 c8
   replace hB := hB.trans (hb7.mono hB.size)
   have hO7 := hO6.below hb7
   clear hO6 hb7
   go_wp2_with fail
   go_roundw
   case rel => exact ⟨u2, out ++ [up], r2, rfl, hO7, HO2, HC2, (by show _ ≤ _; rcases HP.out.2 with h | h <;> omega : Hid _), hB⟩
   case measure =>
    have h1 := HP.out
    have h2 := H0.out
    simp [intOf]; omega
end Go.Proofs.YtehlbomkldnalaaGreat
