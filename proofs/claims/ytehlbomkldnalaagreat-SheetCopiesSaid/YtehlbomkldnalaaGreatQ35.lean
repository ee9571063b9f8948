/- Parts of the proofs of this seat: CopP. Each part says what it proves; no condition beyond those stated there. -/
import Derived.Test.YtehlbomkldnalaaGreatQ10
import Derived.Test.YtehlbomkldnalaaGreatQ29
import Derived.Test.YtehlbomkldnalaaGreatQ30
import Derived.Test.YtehlbomkldnalaaGreatQ34

/- SheetCopies: what is known of two stores that are apart, and of a call of one of them. -/
namespace Go.Proofs.YtehlbomkldnalaaGreat
open Go Go.RowKit
/-- what is known behind a call of both stores -/
def CpR (p : Fp) (s' : SS) (P : Nat → Prop) (B : Nat) (u y : Value) (w : World) : Prop :=
 y = .bool true ∧ ∃ (p' : Fp) (v' : RV) (r' : RS), u = .agg ↑v' ∧ StA w p' s' ∧ p'.g = p.g ∧ (∀ k, p'.has k → p.has k ∨ B ≤ k) ∧ RAt w (fun k => P k ∨ p'.has k) v' r' ∧ Rel r' s'
section
variable {p : Fp} {s' : SS} {P : Nat → Prop} {B g : Nat} {u y : Value} {w w' : World} {cs : Array Value}
theorem CpR.below (h : CpR p s' P B u y w) (hb : Below w.heap.size w w') : CpR p s' P B u y w' := by
 obtain ⟨h0, p', v', r', h1, h2, h3, h4, h5, h6⟩ := h
 exact ⟨h0, p', v', r', h1, h2.below hb, h3, h4, h5.below hb, h6⟩
theorem CpR.chg (h : CpR p s' P B u y w) (hB : Blk w g 38 cs) (hg : P g) (hc : Chg (fun k => k = g) w w') : CpR p s' P B u y w' := by
 obtain ⟨h0, p', v', r', h1, h2, h3, h4, h5, h6⟩ := h
 exact ⟨h0, p', v', r', h1, h2.chg1 hc hB (by decide) (by decide), h3, h4, h5.chg (hc.mono fun k _ hk => by subst hk; exact .inl hg), h6⟩
end
theorem cop_call (p : Fp) (s : SS) (P : Nat → Prop) (v : RV) (r : RS) (x : CallV) (fs : List Pt) (g : Nat) (W w0 : World) (hX : StA w0 p s) (hI : Inv s) (hF : Room s 50) (h : RAt W P v r) (hR : Rel r s) (hP : ∀ k, P k → k < W.heap.size) (hPp : ∀ k, p.has k → P k) (hPg : P g) (hn : x.n = fs.length) (hS : Slc Pt.enc 2 W W.heap.size x.A fs) (hO : Offs P x.A fs) (hfl : fs.length ≤ 100000) (hc : Chg (fun k => p.has k ∨ k = g) W w0) :
  Calls Tryz.prog 9 #[.pointer (some ⟨p.g, 0, none⟩), .agg ↑v, .agg ↑x] w0 fun e w'' => ∃ u y, e = .returned (.tuple #[u, y]) ∧ CpR p (callF s x fs) P W.heap.size u y w'' ∧ Chg p.has w0 w'' := by
 have hcP : Chg P W w0 := hc.mono fun k _ hk => by
  rcases hk with h | h
  ·exact hPp k h
  ·subst h; exact hPg
 refine (call_any p s P v r x fs w0 hX hI hF (h.chg hcP) hR (fun k hk => Nat.lt_of_lt_of_le (hP k hk) hc.size) hPp hn (hS.chgO hcP hO) hO hfl).mono ?_
 rintro e w'' ⟨p', v', r', rfl, hst, hA, hR'⟩
 refine ⟨_, _, rfl, ⟨rfl, p', v', r', rfl, hst.st, hst.g, fun k hk => ?_, hA, hR'⟩, hst.chg⟩
 rcases hst.sub k hk with h | h
 ·exact .inl h
 ·exact .inr (Nat.le_trans hc.size h)
theorem load_rv (v : RV) {g tb : Nat} (o : Oper) (h : o.op = .load 38 (.tmp tb)) : ∀ w : World, Blk w g 38 ↑v → ∀ ev : Operand → Value, ev (.tmp tb) = .pointer (some ⟨g, 0, none⟩) → (execOp ev o).run Tryz.prog w = .ok (.value (.agg ↑v)) w := fun w hb ev hev => by
 obtain ⟨c0, c1, c2, c3, c4, c5, c6, c7, c8⟩ := hb.all9
 unfold execOp
 simp [h, hev, go_sem, c0, c1, c2, c3, c4, c5, c6, c7, c8]
theorem sin_call {W : World} {b off : Nat} (x : CallV) (h : ∀ (j : Nat) v, x.enc[j]? = some v → W.cell? ⟨b, off + j, none⟩ = some v) : (∀ u : Since W, u.w.cell? ⟨b, off, none⟩ = some (.int .i64 x.kind)) ∧ (∀ u : Since W, u.w.cell? ⟨b, off + 1, none⟩ = some (.int .i64 x.id)) ∧ (∀ u : Since W, u.w.cell? ⟨b, off + 2, none⟩ = some (.int .i64 x.gr)) ∧ (∀ u : Since W, u.w.cell? ⟨b, off + 3, none⟩ = some (.int .i64 x.co)) ∧ (∀ u : Since W, u.w.cell? ⟨b, off + 4, none⟩ = some (.int .i64 x.lo)) ∧ (∀ u : Since W, u.w.cell? ⟨b, off + 5, none⟩ = some (.int .i64 x.ma)) ∧ (∀ u : Since W, u.w.cell? ⟨b, off + 6, none⟩ = some (.int .i64 x.wi)) ∧ (∀ u : Since W, u.w.cell? ⟨b, off + 7, none⟩ = some (.int .i64 x.le)) ∧ (∀ u : Since W, u.w.cell? ⟨b, off + 8, none⟩ = some (.slice x.A x.n x.c)) ∧ (∀ u : Since W, u.w.cell? ⟨b, off + 9, none⟩ = some (.int .i64 x.ng)) ∧ (∀ u : Since W, u.w.cell? ⟨b, off + 10, none⟩ = some (.int .i64 x.nq)) ∧ (∀ u : Since W, u.w.cell? ⟨b, off + 11, none⟩ = some (.int .i64 x.nw)) ∧ (∀ u : Since W, u.w.cell? ⟨b, off + 12, none⟩ = some (.int .i64 x.nl)) ∧ (∀ u : Since W, u.w.cell? ⟨b, off + 13, none⟩ = some (.int .i64 x.nk)) ∧ (∀ u : Since W, u.w.cell? ⟨b, off + 14, none⟩ = some (.int .i64 x.day)) ∧ (∀ u : Since W, u.w.cell? ⟨b, off + 15, none⟩ = some (.int .i64 x.cid)) ∧ (∀ u : Since W, u.w.cell? ⟨b, off + 16, none⟩ = some (.int .i64 x.what)) :=
 ⟨Since.cell (h 0 _ rfl), Since.cell (h 1 _ rfl), Since.cell (h 2 _ rfl), Since.cell (h 3 _ rfl), Since.cell (h 4 _ rfl), Since.cell (h 5 _ rfl), Since.cell (h 6 _ rfl), Since.cell (h 7 _ rfl), Since.cell (h 8 _ rfl), Since.cell (h 9 _ rfl), Since.cell (h 10 _ rfl), Since.cell (h 11 _ rfl), Since.cell (h 12 _ rfl), Since.cell (h 13 _ rfl), Since.cell (h 14 _ rfl), Since.cell (h 15 _ rfl), Since.cell (h 16 _ rfl)⟩
theorem call_facts {w W : World} {A : Option Addr} {xs : List CallV} {P : Nat → Prop} (hS : Slc CallV.enc 17 w w.heap.size A xs) (hin : ∀ (i : Nat) x, xs[i]? = some x → CallIn w x) (hbig : ∀ x ∈ xs, x.n ≤ 40 ∧ (x.nk ≤ 12 ∨ 50 < x.nk)) (hB : Below w.heap.size w W) (hP : ∀ k, P k → w.heap.size ≤ k) (i : Nat) (hi : i < xs.length) :
  ∃ (x : CallV) (fs : List Pt) (b off : Nat), A = some ⟨b, off, none⟩ ∧ b < w.heap.size ∧ (∀ (j : Nat) v, x.enc[j]? = some v → W.cell? ⟨b, off + i * 17 + j, none⟩ = some v) ∧ x.n = fs.length ∧ fs.length ≤ 100000 ∧ Slc Pt.enc 2 W W.heap.size x.A fs ∧ Offs P x.A fs := by
 have hx : xs[i]? = some xs[i] := List.getElem?_eq_getElem hi
 obtain ⟨b, off, hA, hb, hd⟩ := hS.below hB i _ hx
 obtain ⟨fs, f1, _, f2, _⟩ := (hin i _ hx).fs
 have h40 := (hbig _ (List.mem_of_getElem? hx)).1
 refine ⟨xs[i], fs, b, off, hA, hb, hd, f1.symm, by omega, (f2.below hB).more hB.size, fun hne ad ha hh => ?_⟩
 obtain ⟨z, hz⟩ := List.exists_mem_of_ne_nil _ hne
 obtain ⟨j, hj⟩ := List.getElem?_of_mem hz
 obtain ⟨b2, off2, hA2, hlt2, _⟩ := f2 j z hj
 rw [ha] at hA2
 injection hA2 with hA2
 subst hA2
 have h3 : b2 < w.heap.size := hlt2
 have h4 : w.heap.size ≤ b2 := hP _ hh
 omega
def QQ (p q : Fp) (ba bb : Nat) (k : Nat) : Prop := p.has k ∨ q.has k ∨ k = ba ∨ k = bb
/-- two stores and the document's, each beside its own, in blocks of their own -/
structure Two (w0 w : World) (g1 g2 ba bb m n : Nat) (p q : Fp) (s t : SS) (v u : RV) (r o : RS) : Prop where
 e1 : p.g = g1
 e2 : q.g = g2
 x1 : StA w p s
 x2 : StA w q t
 i1 : Inv s
 i2 : Inv t
 m1 : Room s m
 m2 : Room t n
 l1 : Rel r s
 l2 : Rel o t
 b1 : Blk w ba 38 ↑v
 b2 : Blk w bb 38 ↑u
 a1 : RAt w (QQ p q ba bb) v r
 a2 : RAt w (QQ p q ba bb) u o
 ap : ∀ k, p.has k → ¬ q.has k
 k1 : ∀ k, p.has k → w0.heap.size ≤ k
 k2 : ∀ k, q.has k → w0.heap.size ≤ k
 ne : ba ≠ bb ∧ w0.heap.size ≤ ba ∧ w0.heap.size ≤ bb
 bel : Below w0.heap.size w0 w
section
variable {w0 w w' : World} {g1 g2 ba bb m n m' n' : Nat} {p q : Fp} {s t : SS} {v u : RV} {r o : RS}
theorem Two.below (h : Two w0 w g1 g2 ba bb m n p q s t v u r o) (hb : Below w.heap.size w w') : Two w0 w' g1 g2 ba bb m n p q s t v u r o :=
 { h with x1 := h.x1.below hb, x2 := h.x2.below hb, b1 := h.b1.below hb h.b1.lt, b2 := h.b2.below hb h.b2.lt, a1 := h.a1.below hb, a2 := h.a2.below hb, bel := h.bel.trans (hb.mono h.bel.size) }
theorem Two.less (h : Two w0 w g1 g2 ba bb m n p q s t v u r o) (h1 : m' ≤ m) (h2 : n' ≤ n) : Two w0 w g1 g2 ba bb m' n' p q s t v u r o :=
 { h with m1 := h.m1.less h1, m2 := h.m2.less h2 }
theorem Two.swap (h : Two w0 w g1 g2 ba bb m n p q s t v u r o) : Two w0 w g2 g1 bb ba n m q p t s u v o r := by
 have hq : ∀ k, QQ q p bb ba k → QQ p q ba bb k := fun k hk => by
  rcases hk with h | h | h | h
  ·exact .inr (.inl h)
  ·exact .inl h
  ·exact .inr (.inr (.inr h))
  ·exact .inr (.inr (.inl h))
 exact ⟨h.e2, h.e1, h.x2, h.x1, h.i2, h.i1, h.m2, h.m1, h.l2, h.l1, h.b2, h.b1, h.a2.less hq, h.a1.less hq, fun k h1 h2 => h.ap k h2 h1, h.k2, h.k1, ⟨h.ne.1.symm, h.ne.2.2, h.ne.2.1⟩, h.bel⟩
theorem Two.old (h : Two w0 w g1 g2 ba bb m n p q s t v u r o) : ∀ k, QQ p q ba bb k → w0.heap.size ≤ k := fun k hk => by
 rcases hk with j | j | j | j
 ·exact h.k1 k j
 ·exact h.k2 k j
 ·rw [j]; exact h.ne.2.1
 ·rw [j]; exact h.ne.2.2
theorem Two.lt (h : Two w0 w g1 g2 ba bb m n p q s t v u r o) : ∀ k, QQ p q ba bb k → k < w.heap.size := fun k hk => by
 rcases hk with j | j | j | j
 ·exact h.x1.lt j
 ·exact h.x2.lt j
 ·rw [j]; exact h.b1.lt
 ·rw [j]; exact h.b2.lt
theorem Two.call (h : Two w0 w g1 g2 ba bb m n p q s t v u r o) {s' : SS} {cs : Array Value} {y : Value} (hi : Inv s') (hm : Room s' m') (hc : Chg (fun k => p.has k ∨ k = ba) w w') (hR : CpR p s' (QQ p q ba bb) w.heap.size (.agg cs) y w') (hb : Blk w' ba 38 cs) :
  y = .bool true ∧ ∃ (p' : Fp) (v' : RV) (r' : RS), Two w0 w' g1 g2 ba bb m' n p' q s' t v' u r' o := by
 obtain ⟨h0, p', v', r', h1, h2, h3, h4, h5, h6⟩ := hR
 injection h1 with h1
 subst h1
 have hnew : ∀ k, p'.has k → p.has k ∨ w.heap.size ≤ k := h4
 have hcQ : Chg (QQ p q ba bb) w w' := hc.mono fun k _ hk => by
  rcases hk with j | j
  ·exact .inl j
  ·exact .inr (.inr (.inl j))
 have hnb : ∀ k, (p.has k ∨ k = ba) → ¬ q.has k ∧ NoSpan w k := fun k hk => by
  rcases hk with j | j
  ·exact ⟨h.ap k j, h.x1.noSpan j⟩
  ·rw [j]; exact ⟨h.x2.nhas h.b1 (by decide), NoSpan.blk h.b1 (by decide)⟩
 have hbb : ¬ (p.has bb ∨ bb = ba) := fun hk => by
  rcases hk with j | j
  ·exact h.x1.nhas h.b2 (by decide) j
  ·exact h.ne.1 j.symm
 refine ⟨h0, p', v', r', h3.trans h.e1, h.e2, h2, h.x2.far hc hnb, hi, h.i2, hm, h.m2, h6, h.l2, hb, h.b2.chg hc hbb, h5.less fun k hk => ?_, ?_, fun k hk hk2 => ?_, fun k hk => ?_, h.k2, h.ne, h.bel.trans (hc.to_below h.bel.size fun k hk j => ?_)⟩
 ·rcases hk with j | j | j | j
  ·exact .inr j
  ·exact .inl (.inr (.inl j))
  ·exact .inl (.inr (.inr (.inl j)))
  ·exact .inl (.inr (.inr (.inr j)))
 ·refine ((h.a2.more (P' := fun k => QQ p q ba bb k ∨ w.heap.size ≤ k) fun k hk => hk).chg (hcQ.mono fun k _ hk => .inl hk)).less fun k hk => ?_
  rcases hk with j | j
  ·rcases hnew k j with j | j
   ·exact .inl (.inl j)
   ·exact .inr j
  ·exact .inl (.inr j)
 ·rcases hnew k hk with j | j
  ·exact h.ap k j hk2
  ·have := h.x2.lt hk2; omega
 ·rcases hnew k hk with j | j
  ·exact h.k1 k j
  ·exact Nat.le_trans h.bel.size j
 ·rcases j with j | j
  ·have := h.k1 k j; omega
  ·have := h.ne.2.1; omega
end
end Go.Proofs.YtehlbomkldnalaaGreat
