/- Parts of the proofs of this seat: Shs. Each part says what it proves; no condition beyond those stated there. -/
import Derived.Test.YtnejacogflkmmaaRows
import Derived.WalkSpells
import Derived.Outline
import Derived.Test.YtnejacogflkmmaaM4
import Derived.Test.YtnejacogflkmmaaM9
import Derived.Test.YtnejacogflkmmaaM10

/- Lists of items in memory. -/
namespace Go.Proofs.Ytnejacogflkmmaa
open Go Go.RowKit
structure SH where
  id : Int
  root : Int
  gr : Int
  co : Int
  lo : Int
  ma : Int
  wi : Int
  le : Int
  A : Option Addr
  n : Nat
  c : Nat
instance : Inhabited SH := ⟨⟨0, 0, 0, 0, 0, 0, 0, 0, none, 0, 0⟩⟩
def SH.enc (h : SH) : List Value := [.int .i64 h.id, .int .i64 h.root, .int .i64 h.gr, .int .i64 h.co, .int .i64 h.lo, .int .i64 h.ma, .int .i64 h.wi, .int .i64 h.le, .slice h.A h.n h.c]
theorem sh_len : ∀ h : SH, h.enc.length = 9 := fun _ => rfl
theorem sh_one : ∀ h : SH, ∀ u ∈ h.enc, u.oneCell' = true := fun h u hu => by
  simp [SH.enc] at hu
  rcases hu with rfl | rfl | rfl | rfl | rfl | rfl | rfl | rfl | rfl <;> rfl
def SH.of (x : Sheet) (A : Option Addr) (c : Nat) : SH := ⟨x.id, x.root, x.grade, x.colour, x.lot, x.made, x.width, x.length, A, x.faults.length, c⟩
/-- an item and its head: its faults lie in a row of spans -/
def ShV (w : World) (x : Sheet) (h : SH) : Prop := ∃ A c, h = SH.of x A c ∧ ItV w x (x.valAt A c)
theorem ItV.sh {w : World} {x : Sheet} {v : Value} (h : ItV w x v) : ∃ A c, v = x.valAt A c ∧ ShV w x (SH.of x A c) := by
  obtain ⟨A, c, rfl, h1, h2⟩ := h
  exact ⟨A, c, rfl, A, c, rfl, A, c, rfl, h1, h2⟩
theorem ShV.slc {w : World} {x : Sheet} {A : Option Addr} {c : Nat} (h : ShV w x (SH.of x A c)) : Slc Pt.enc 2 w w.heap.size A x.faults := by
  obtain ⟨A', c', he, A2, c2, hv, h1, _⟩ := h
  unfold SH.of at he
  unfold Sheet.valAt at hv
  simp at he hv
  rw [he.1, hv.1]; exact h1
structure ShsIn (w : World) (hs : List SH) (xs : List Sheet) : Prop where
  len : hs.length = xs.length
  ok : ∀ (i : Nat) x h, xs[i]? = some x → hs[i]? = some h → ShV w x h
section
variable {w w' : World} {hs : List SH} {xs : List Sheet} {S : Nat → Prop}
theorem ShV.chg {x : Sheet} {h : SH} (k : ShV w x h) (hc : Chg S w w') (hS : ∀ k, S k → NoSpan w k) : ShV w' x h := by
  obtain ⟨A, c, h1, h2⟩ := k
  exact ⟨A, c, h1, h2.chg hc hS⟩
theorem ShV.below {x : Sheet} {h : SH} (k : ShV w x h) (hb : Below w.heap.size w w') : ShV w' x h := k.chg (S := fun _ => False) (.of_below hb) fun _ h => h.elim
theorem ShsIn.nil_ (w : World) : ShsIn w [] [] := ⟨rfl, fun i x h hx => by simp at hx⟩
theorem ShsIn.chg (k : ShsIn w hs xs) (hc : Chg S w w') (hS : ∀ k, S k → NoSpan w k) : ShsIn w' hs xs := ⟨k.len, fun i x h hx hh => (k.ok i x h hx hh).chg hc hS⟩
theorem ShsIn.below (k : ShsIn w hs xs) (hb : Below w.heap.size w w') : ShsIn w' hs xs := k.chg (S := fun _ => False) (.of_below hb) fun _ h => h.elim
theorem ShsIn.snoc (k : ShsIn w hs xs) {x : Sheet} {h : SH} (hx : ShV w x h) : ShsIn w (hs ++ [h]) (xs ++ [x]) :=
  ⟨by rw [List.length_append, List.length_append, k.len]; rfl, fun i y j hy hj => by
    rcases Nat.lt_or_ge i hs.length with hi | hi
    · rw [List.getElem?_append_left hi] at hj
      rw [List.getElem?_append_left (by rw [← k.len]; exact hi)] at hy
      exact k.ok i y j hy hj
    · rw [List.getElem?_append_right hi] at hj
      rw [List.getElem?_append_right (by rw [← k.len]; exact hi), ← k.len] at hy
      have hz : i - hs.length = 0 := by
        have := (List.getElem?_eq_some_iff.1 hj).1
        simp at this; omega
      rw [hz] at hy hj
      simp at hy hj
      subst hy hj
      exact hx⟩
/-- the list that holds other things than spans grows -/
theorem NoSpan.own {α : Type} {base : Nat} {e : TypeId} {sz : Nat} {f : α → List Value} {v : Value} {l : List α} (h : Own w base e sz f v l) (he : e ≠ 87) {b : Nat} (hb : v.ownBlock = some b) : NoSpan w b := by
  rcases h.2 with ⟨h1, _⟩ | ⟨g, cap, cur, h1, _, h3, _⟩
  · rw [h1] at hb; cases hb
  · rw [h1] at hb
    have hb' : g = b := by injection hb
    subst hb'
    intro cs fr hq
    rw [h3] at hq
    injection hq with hq
    injection hq with _ hq
    exact he hq
theorem ShsIn.grown {α : Type} {base : Nat} {e : TypeId} {sz : Nat} {f : α → List Value} {v : Value} {l : List α} (k : ShsIn w hs xs) (hO : Own w base e sz f v l) (he : e ≠ 87) (hg : w.grownBy w' v.ownBlock) : ShsIn w' hs xs :=
  k.chg (S := fun b => v.ownBlock = some b) (.of_grown' hg fun _ h => h) fun _b hb => NoSpan.own hO he hb
theorem ShV.grown {α : Type} {base : Nat} {e : TypeId} {sz : Nat} {f : α → List Value} {v : Value} {l : List α} {x : Sheet} {h : SH} (k : ShV w x h) (hO : Own w base e sz f v l) (he : e ≠ 87) (hg : w.grownBy w' v.ownBlock) : ShV w' x h :=
  k.chg (S := fun b => v.ownBlock = some b) (.of_grown' hg fun _ h => h) fun _b hb => NoSpan.own hO he hb
/-- an item whose faults are copied -/
theorem ShV.made {x : Sheet} {A : Option Addr} {c base : Nat} (hS : Slc Pt.enc 2 w w.heap.size A x.faults) (hO : x.faults ≠ [] → Own w base 87 2 Pt.enc (.slice A x.faults.length c) x.faults) : ShV w x (SH.of x A c) :=
  ⟨A, c, rfl, A, c, rfl, hS, fun hne => by
    rcases (hO hne).2 with ⟨_, h2⟩ | ⟨g, cap, cur, h1, _, h3, _⟩
    · exact absurd (List.length_eq_zero_iff.1 h2) hne
    · injection h1 with h1
      exact ⟨⟨g, 0, none⟩, cur, _, h1, h3⟩⟩
theorem ItV.made {x : Sheet} {A : Option Addr} {c base : Nat} (hS : Slc Pt.enc 2 w w.heap.size A x.faults) (hO : x.faults ≠ [] → Own w base 87 2 Pt.enc (.slice A x.faults.length c) x.faults) : ItV w x (x.valAt A c) :=
  ⟨A, c, rfl, hS, fun hne => by
    rcases (hO hne).2 with ⟨_, h2⟩ | ⟨g, cap, cur, h1, _, h3, _⟩
    · exact absurd (List.length_eq_zero_iff.1 h2) hne
    · injection h1 with h1
      exact ⟨⟨g, 0, none⟩, cur, _, h1, h3⟩⟩
theorem ShsIn.at_ (k : ShsIn w hs xs) {i : Nat} {x : Sheet} (hx : xs[i]? = some x) : ∃ A c, hs[i]? = some (SH.of x A c) ∧ ShV w x (SH.of x A c) := by
  have hi : i < hs.length := by rw [k.len]; exact (List.getElem?_eq_some_iff.1 hx).1
  have h1 := List.getElem?_eq_getElem hi
  have h2 := k.ok i x _ hx h1
  obtain ⟨A, c, h3, h4⟩ := h2
  exact ⟨A, c, by rw [h1, h3], A, c, rfl, h4⟩
end
theorem Own.lts {α : Type} {w : World} {base : Nat} {e : TypeId} {sz : Nat} {f : α → List Value} {v : Value} {l : List α} (h : Own w base e sz f v l) : ∀ k, v.ownBlock = some k → k < w.heap.size := fun k hk => (World.ownsRow.lt h k hk).2
theorem Own.chgN {α : Type} {w w' : World} {base : Nat} {e : TypeId} {sz : Nat} {f : α → List Value} {v : Value} {l : List α} {S : Nat → Prop} (h : Own w base e sz f v l) (hc : Chg S w w') (hn : ∀ k, v.ownBlock = some k → ¬ S k) : Own w' base e sz f v l := by
  refine ⟨h.1, ?_⟩
  rcases h.2 with h2 | ⟨g, cap, cur, h1, h2, h3, h4⟩
  · exact .inl h2
  · refine .inr ⟨g, cap, cur, h1, h2, (hc.block g (Array.getElem?_eq_some_iff.1 h3).1 (hn g (by rw [h1]; rfl))).trans h3, h4⟩
theorem Own.from_ {α : Type} {w : World} {base b0 : Nat} {e : TypeId} {sz : Nat} {f : α → List Value} {A : Option Addr} {n c : Nat} {l : List α} (h : Own w base e sz f (.slice A n c) l) (hb : b0 ≤ base) : ∀ ad, A = some ad → b0 ≤ ad.block := fun ad ha => by
  rcases h.2 with ⟨h1, _⟩ | ⟨g, cap, cur, h1, h2, _⟩
  · injection h1 with h1; rw [h1] at ha; cases ha
  · injection h1 with h1
    rw [h1] at ha
    injection ha with ha
    rw [← ha]; exact Nat.le_trans hb h2
theorem Slc.chgA {α : Type} {enc : α → List Value} {sz : Nat} {w w' : World} {B : Nat} {A : Option Addr} {xs : List α} {S : Nat → Prop} (h : Slc enc sz w B A xs) (hc : Chg S w w') (hB : B ≤ w.heap.size) (hA : ∀ ad, A = some ad → ¬ S ad.block) : Slc enc sz w' B A xs := fun i x hx => by
  obtain ⟨b, off, rfl, hb, hcell⟩ := h i x hx
  exact ⟨b, off, rfl, hb, fun j v hv => (World.cell?_of_block (hc.block b (by omega) (hA _ rfl))).trans (hcell j v hv)⟩
theorem Slc.on {α : Type} {enc : α → List Value} {sz : Nat} {w w' : World} {A : Option Addr} {xs : List α} (h : Slc enc sz w w.heap.size A xs) (hb : Below w.heap.size w w') : Slc enc sz w' w'.heap.size A xs := (h.below hb).more hb.size
def ItemsPost (xs : List Sheet) (w : World) (e : Ending) (w' : World) : Prop :=
  ∃ (A : Option Addr) (c : Nat) (hs : List SH), e = .returned (.slice A xs.length c) ∧ Slc SH.enc 9 w' w'.heap.size A hs ∧ ShsIn w' hs xs ∧ Below w.heap.size w w' ∧ ∀ ad, A = some ad → w.heap.size ≤ ad.block
/-- a piece's cells -/
def Piece.enc (p : Piece) : List Value := [.int .i64 p.id, .int .i64 p.root, .int .i64 p.lot, .int .i64 p.grade, .int .i64 p.colour, .int .i64 p.width, .int .i64 p.length, .int .i64 p.use]
instance : Inhabited Piece := ⟨⟨0, 0, 0, 0, 0, 0, 0, 0⟩⟩
theorem pce_len : ∀ h : Piece, h.enc.length = 8 := fun _ => rfl
theorem pce_one : ∀ h : Piece, ∀ u ∈ h.enc, u.oneCell' = true := fun h u hu => by
  simp [Piece.enc] at hu
  rcases hu with rfl | rfl | rfl | rfl | rfl | rfl | rfl | rfl <;> rfl
def PiecesPost (xs : List Piece) (w : World) (e : Ending) (w' : World) : Prop :=
  ∃ (A : Option Addr) (c : Nat), e = .returned (.slice A xs.length c) ∧ Slc Piece.enc 8 w' w'.heap.size A xs ∧ Below w.heap.size w w' ∧ ∀ ad, A = some ad → w.heap.size ≤ ad.block
theorem et_sheet : ElemT Try.prog 51 54 9 := elemT_mk Try.underlying51 (z := .agg #[.int .i64 0, .int .i64 0, .int .i64 0, .int .i64 0, .int .i64 0, .int .i64 0, .int .i64 0, .int .i64 0, .slice none 0 0]) (bytes := 88) (by kernel_rfl) rfl (by omega) (by omega)
theorem et_piece : ElemT Try.prog 41 48 8 := elemT_mk Try.underlying41 (z := .agg #[.int .i64 0, .int .i64 0, .int .i64 0, .int .i64 0, .int .i64 0, .int .i64 0, .int .i64 0, .int .i64 0]) (bytes := 64) (by kernel_rfl) rfl (by omega) (by omega)
theorem et_span : ElemT Try.prog 22 87 2 := elemT_mk Try.underlying22 (z := .agg #[.int .i64 0, .int .i64 0]) (bytes := 16) (by kernel_rfl) rfl (by omega) (by omega)
theorem et_ints : ElemT Try.prog 43 3 1 := elemT_mk Try.underlying43 (z := .int .i64 0) (bytes := 8) (by kernel_rfl) rfl (by omega) (by omega)
theorem pt_len : ∀ h : Pt, h.enc.length = 2 := fun _ => rfl
theorem pt_one : ∀ h : Pt, ∀ u ∈ h.enc, u.oneCell' = true := fun h u hu => by
  simp [Pt.enc] at hu
  rcases hu with rfl | rfl <;> rfl
theorem intEnc_one : ∀ x : Int, ∀ u ∈ intEnc x, u.oneCell' = true := fun x u hu => by
  simp [intEnc] at hu; rw [hu]; rfl
def ClonePost {α : Type} (t : TypeId) (f : α → List Value) (sz : Nat) (l : List α) (w : World) (e : Ending) (w' : World) : Prop :=
  ∃ A' c', e = .returned (.slice A' l.length c') ∧ Below w.heap.size w w' ∧ Slc f sz w' w'.heap.size A' l ∧ (l ≠ [] → Own w' w.heap.size t sz f (.slice A' l.length c') l)
set_option maxRecDepth 100000 in
theorem cloneSpan_any (A : Option Addr) (c : Nat) (l : List Pt) (w : World) (hl : l.length ≤ 100000) (hS : Slc Pt.enc 2 w w.heap.size A l) :
    Calls Try.prog 51 #[.slice A l.length c] w (ClonePost 87 Pt.enc 2 l w) := by
  have q22 : ∀ (w : World) (a : Option Addr) (n c n' c' : Nat), (binOp .eql 22 (.slice a n c) (.slice none n' c')).run Try.prog w = .ok (.bool a.isNone) w := fun w a n c n' c' => Lib.run_eql_slice_nil w _ _ a n c n' c' Try.underlying22
  cases A with
  | none =>
    have hn : l = [] := by
      cases l with
      | nil => rfl
      | cons x r => obtain ⟨b, off, h, _⟩ := hS 0 x rfl; cases h
    subst hn
    go_enter Try.func51, Try.ntmps51
    go_wp2_with fail
    go_ret
    exact ⟨none, 0, rfl, Below.refl _ _, Slc.nil_, fun h => absurd rfl h⟩
  | some a =>
    have HS := hide hS
    have hsz : (w.alloc (.cells #[] 87)).heap.size = w.heap.size + 1 := by simp
    have HSZ := hide hsz
    have HB0 := hide ((Below.refl w.heap.size w).alloc (Nat.le_refl _) (.cells #[] 87))
    clear hS hsz
    go_enter Try.func51, Try.ntmps51
    go_wp2_with (at_builtin; refine wpList_app_full (xs := []) (ys := l) (B1 := 0) (B2 := w.heap.size) _ _ rfl rfl et_span rfl rfl Slc.nil_ rfl (HS.out.below HB0.out) rfl (Nat.zero_le _) pt_len pt_one (by omega) ?_; intro A' c' W' hb hS' hc' hO')
    go_ret
    have hb2 := HB0.out.trans (hb.mono HB0.out.size)
    refine ⟨A', c', by simp, hb2, by simpa using hS', fun hne => ?_⟩
    have h := (hO' hne).mono_base (b' := w.heap.size) HB0.out.size
    simpa using h
end Go.Proofs.Ytnejacogflkmmaa
