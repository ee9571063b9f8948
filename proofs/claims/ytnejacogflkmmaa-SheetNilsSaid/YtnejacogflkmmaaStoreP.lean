/- The store of package sheet in memory. -/
import Derived.Test.YtnejacogflkmmaaData
import Derived.Test.YtnejacogflkmmaaMaps
import Derived.Test.YtnejacogflkmmaaChg
namespace Go.Proofs.Ytnejacogflkmmaa
open Go.RowKit
structure Sheet where
  id : Int
  root : Int
  grade : Int
  colour : Int
  lot : Int
  made : Int
  width : Int
  length : Int
  faults : List Pt
structure Piece where
  id : Int
  root : Int
  lot : Int
  grade : Int
  colour : Int
  width : Int
  length : Int
  use : Int
structure Kin where
  grade : Int
  colour : Int
  made : Int
structure SS where
  rules : Shelf
  items : List (Int × Sheet)
  pieces : List (Int × Piece)
  parent : List (Int × Int)
  lots : List (Int × Kin)
  last : Int
  received : Int
  waste : Int
def Piece.val (p : Piece) : Value := .agg #[.int .i64 p.id, .int .i64 p.root, .int .i64 p.lot, .int .i64 p.grade, .int .i64 p.colour, .int .i64 p.width, .int .i64 p.length, .int .i64 p.use]
def Kin.val (k : Kin) : Value := .agg #[.int .i64 k.grade, .int .i64 k.colour, .int .i64 k.made]
def Sheet.valAt (x : Sheet) (A : Option Addr) (c : Nat) : Value :=
  .agg #[.int .i64 x.id, .int .i64 x.root, .int .i64 x.grade, .int .i64 x.colour, .int .i64 x.lot, .int .i64 x.made, .int .i64 x.width, .int .i64 x.length, .slice A x.faults.length c]
/-- where the faults of an item lie: below B0, or in a row of spans -/
def FarOk (w : World) (B0 : Nat) (A : Option Addr) : Prop := ∀ ad, A = some ad → ad.block < B0 ∨ ∃ cs fr, w.heap[ad.block]? = some (.cells cs 87 fr)
def SheetVal (w : World) (B0 : Nat) (x : Sheet) (v : Value) : Prop := ∃ A c, v = x.valAt A c ∧ Slc Pt.enc 2 w w.heap.size A x.faults ∧ FarOk w B0 A
def storeCells_ (s : SS) (ri rp rq rl : Nat) : Array Value :=
  #[.int .i64 s.rules.minWidth, .int .i64 s.rules.minLength, .int .i64 s.rules.l0, .int .i64 s.rules.l1, .int .i64 s.rules.l2, .bool true, .map (some ri), .map (some rp), .map (some rq), .map (some rl), .int .i64 s.last, .int .i64 s.received, .int .i64 s.waste]
def kv {V : Type} (f : V → Value) (p : Int × V) : Int × Value := (p.1, f p.2)
structure StoreAt (w : World) (B0 g ri rp rq rl : Nat) (s : SS) : Prop where
  blk : Blk w g 79 (storeCells_ s ri rp rq rl)
  low : B0 ≤ g ∧ B0 ≤ ri ∧ B0 ≤ rp ∧ B0 ≤ rq ∧ B0 ≤ rl
  items : ∃ MI, MapOf w ri MI ∧ MI.length = s.items.length ∧ ∀ (i : Nat) p q, s.items[i]? = some p → MI[i]? = some q → p.1 = q.1 ∧ SheetVal w B0 p.2 q.2
  pieces : MapOf w rp (s.pieces.map (kv Piece.val))
  parent : MapOf w rq (s.parent.map (kv (Value.int .i64)))
  lots : MapOf w rl (s.lots.map (kv Kin.val))
  ne : ri ≠ rp ∧ ri ≠ rq ∧ ri ≠ rl ∧ rp ≠ rq ∧ rp ≠ rl ∧ rq ≠ rl


section
variable {w w' : World} {B0 g ri rp rq rl : Nat} {s : SS}
/-- the blocks of a store -/
def OfStore (g ri rp rq rl : Nat) (k : Nat) : Prop := k = g ∨ k = ri ∨ k = rp ∨ k = rq ∨ k = rl
theorem FarOk.ne_map {A : Option Addr} {r : Nat} {M : List (Int × Value)} (h : FarOk w B0 A) (hM : MapOf w r M) (hr : B0 ≤ r) : ∀ ad, A = some ad → ad.block ≠ r := by
  intro ad ha he
  rcases h ad ha with h | ⟨cs, fr, h⟩
  · omega
  · obtain ⟨es, clock, h1, _⟩ := hM
    rw [he, h1] at h; cases h
theorem FarOk.ne_blk {A : Option Addr} {g : Nat} {cs : Array Value} (h : FarOk w B0 A) (hB : Blk w g 79 cs) (hr : B0 ≤ g) : ∀ ad, A = some ad → ad.block ≠ g := by
  intro ad ha he
  rcases h ad ha with h | ⟨cs', fr, h⟩
  · omega
  · unfold Blk at hB
    rw [he, hB] at h
    injection h with h; injection h with _ h
    cases h
/-- an item's value stays over whatever leaves its faults' block -/
theorem SheetVal.keep {x : Sheet} {v : Value} (h : SheetVal w B0 x v) (hsz : w.heap.size ≤ w'.heap.size) {b : Nat} (hk : ∀ k, k < w.heap.size → k ≠ b → w'.heap[k]? = w.heap[k]?)
    (hne : ∀ A, FarOk w B0 A → ∀ ad, A = some ad → ad.block ≠ b) : SheetVal w' B0 x v := by
  obtain ⟨A, c, rfl, hS, hF⟩ := h
  refine ⟨A, c, rfl, fun i y hy => ?_, fun ad ha => ?_⟩
  · obtain ⟨b', off, hA, hb', hc⟩ := hS i y hy
    refine ⟨b', off, hA, by omega, fun j v hv => ?_⟩
    rw [← hc j v hv]
    exact World.cell?_of_block (hk b' hb' (hne A hF _ hA))
  · rcases hF ad ha with h | ⟨cs, fr, h⟩
    · exact .inl h
    · refine .inr ⟨cs, fr, (hk _ ?_ (hne A hF _ ha)).trans h⟩
      exact (Array.getElem?_eq_some_iff.1 h).1

theorem StoreAt.lts (h : StoreAt w B0 g ri rp rq rl s) : g < w.heap.size ∧ ri < w.heap.size ∧ rp < w.heap.size ∧ rq < w.heap.size ∧ rl < w.heap.size := by
  obtain ⟨MI, hm, _⟩ := h.items
  exact ⟨h.blk.lt, hm.lt, h.pieces.lt, h.parent.lt, h.lots.lt⟩
theorem StoreAt.gne (h : StoreAt w B0 g ri rp rq rl s) : ri ≠ g ∧ rp ≠ g ∧ rq ≠ g ∧ rl ≠ g := by
  obtain ⟨MI, hm, _⟩ := h.items
  exact ⟨hm.blk_ne h.blk, h.pieces.blk_ne h.blk, h.parent.blk_ne h.blk, h.lots.blk_ne h.blk⟩
theorem StoreAt.below (h : StoreAt w B0 g ri rp rq rl s) (hb : Below w.heap.size w w') : StoreAt w' B0 g ri rp rq rl s := by
  obtain ⟨l0, l1, l2, l3, l4⟩ := h.lts
  obtain ⟨MI, hm, hl, hi⟩ := h.items
  exact ⟨h.blk.below hb l0, h.low, ⟨MI, hm.below hb l1, hl, fun i p q hp hq => ⟨(hi i p q hp hq).1, (hi i p q hp hq).2.keep (b := w.heap.size) hb.size (fun k hk _ => hb.block k hk) (fun A hF ad ha he => by
    obtain ⟨A', c, _, hS, hF'⟩ := (hi i p q hp hq).2
    rcases hF ad ha with h1 | ⟨cs, fr, h1⟩
    · have := h.low.1; omega
    · have := (Array.getElem?_eq_some_iff.1 h1).1; omega)⟩⟩, h.pieces.below hb l2, h.parent.below hb l3, h.lots.below hb l4, h.ne⟩
theorem StoreAt.alloc (h : StoreAt w B0 g ri rp rq rl s) (o : Obj) : StoreAt (w.alloc o) B0 g ri rp rq rl s := h.below ((Below.refl _ _).alloc (Nat.le_refl _) o)
theorem StoreAt.drew (h : StoreAt w B0 g ri rp rq rl s) : StoreAt w.drew B0 g ri rp rq rl s := h.below ((Below.refl _ _).drew)
theorem StoreAt.setCell (h : StoreAt w B0 g ri rp rq rl s) {p : Addr} (hp : w.heap.size ≤ p.block) (u : Value) : StoreAt (w.setCell p u) B0 g ri rp rq rl s := h.below ((Below.refl _ _).setCell hp u)
/-- items over a store into the map r of the store, or into its struct -/
theorem StoreAt.items_keep (h : StoreAt w B0 g ri rp rq rl s) {r : Nat} (hg : w.grownBy w' (some r)) (hr : r = rp ∨ r = rq ∨ r = rl ∨ r = g) :
    ∃ MI, MapOf w' ri MI ∧ MI.length = s.items.length ∧ ∀ (i : Nat) p q, s.items[i]? = some p → MI[i]? = some q → p.1 = q.1 ∧ SheetVal w' B0 p.2 q.2 := by
  obtain ⟨MI, hm, hl, hi⟩ := h.items
  obtain ⟨n1, n2, n3, n4, n5, n6⟩ := h.ne
  have hgn := h.gne
  obtain ⟨w0, w1, w2, w3, w4⟩ := h.low
  refine ⟨MI, hm.grown hg (by simp; rcases hr with rfl | rfl | rfl | rfl <;> omega), hl, fun i p q hp hq => ⟨(hi i p q hp hq).1, (hi i p q hp hq).2.keep (b := r) hg.size (fun k hk hne => hg.block k hk (by simpa using hne)) fun A hF => ?_⟩⟩
  rcases hr with rfl | rfl | rfl | rfl
  · exact hF.ne_map h.pieces w2
  · exact hF.ne_map h.parent w3
  · exact hF.ne_map h.lots w4
  · exact hF.ne_blk h.blk w0
theorem StoreAt.put_parent (h : StoreAt w B0 g ri rp rq rl s) {P' : List (Int × Int)} (hg : w.grownBy w' (some rq)) (hM : MapOf w' rq (P'.map (kv (Value.int .i64)))) : StoreAt w' B0 g ri rp rq rl { s with parent := P' } := by
  obtain ⟨n1, n2, n3, n4, n5, n6⟩ := h.ne
  have hgn := h.gne
  exact ⟨h.blk.grown hg (by simp; omega), h.low, h.items_keep hg (by simp), h.pieces.grown hg (by simp; omega), hM, h.lots.grown hg (by simp; omega), h.ne⟩
theorem StoreAt.put_lots (h : StoreAt w B0 g ri rp rq rl s) {L' : List (Int × Kin)} (hg : w.grownBy w' (some rl)) (hM : MapOf w' rl (L'.map (kv Kin.val))) : StoreAt w' B0 g ri rp rq rl { s with lots := L' } := by
  obtain ⟨n1, n2, n3, n4, n5, n6⟩ := h.ne
  have hgn := h.gne
  exact ⟨h.blk.grown hg (by simp; omega), h.low, h.items_keep hg (by simp), h.pieces.grown hg (by simp; omega), h.parent.grown hg (by simp; omega), hM, h.ne⟩
theorem StoreAt.put_pieces (h : StoreAt w B0 g ri rp rq rl s) {P' : List (Int × Piece)} (hg : w.grownBy w' (some rp)) (hM : MapOf w' rp (P'.map (kv Piece.val))) : StoreAt w' B0 g ri rp rq rl { s with pieces := P' } := by
  obtain ⟨n1, n2, n3, n4, n5, n6⟩ := h.ne
  have hgn := h.gne
  exact ⟨h.blk.grown hg (by simp; omega), h.low, h.items_keep hg (by simp), hM, h.parent.grown hg (by simp; omega), h.lots.grown hg (by simp; omega), h.ne⟩
theorem grownBy_setCell (w : World) (p : Addr) (u : Value) : w.grownBy (w.setCell p u) (some p.block) :=
  ⟨rfl, rfl, rfl, by simp [World.setCell], fun i _ hi => Below.heap_setCell w p u i (fun e => hi (by rw [e]))⟩
theorem StoreAt.set_ (h : StoreAt w B0 g ri rp rq rl s) {k : Nat} {u : Value} {s' : SS} (hc : (storeCells_ s ri rp rq rl).setIfInBounds k u = storeCells_ s' ri rp rq rl) (h1 : s'.items = s.items) (h2 : s'.pieces = s.pieces) (h3 : s'.parent = s.parent) (h4 : s'.lots = s.lots) :
    StoreAt (w.setCell ⟨g, k, none⟩ u) B0 g ri rp rq rl s' := by
  have hg := grownBy_setCell w ⟨g, k, none⟩ u
  have hgn := h.gne
  refine ⟨hc ▸ h.blk.set_ k u, h.low, h1 ▸ h.items_keep hg (by simp), h2 ▸ h.pieces.grown hg (by simp; omega), h3 ▸ h.parent.grown hg (by simp; omega), h4 ▸ h.lots.grown hg (by simp; omega), h.ne⟩
theorem look_kv {V : Type} (f : V → Value) (M : List (Int × V)) (k : Int) : look (M.map (kv f)) k = (look M k).map f := by
  unfold look
  rw [List.find?_map]
  cases h : M.find? ((fun p : Int × Value => p.1 == k) ∘ kv f) with
  | none => have h' : M.find? (fun p => p.1 == k) = none := h
            rw [h']; rfl
  | some p => have h' : M.find? (fun p => p.1 == k) = some p := h
              rw [h']; rfl
theorem look_kv_none {V : Type} {f : V → Value} {M : List (Int × V)} {k : Int} (h : look M k = none) : look (M.map (kv f)) k = none := by rw [look_kv, h]; rfl
theorem look_kv_some {V : Type} {f : V → Value} {M : List (Int × V)} {k : Int} {v : V} (h : look M k = some v) : look (M.map (kv f)) k = some (f v) := by rw [look_kv, h]; rfl
theorem put_kv {V : Type} (f : V → Value) (M : List (Int × V)) (k : Int) (v : V) : put (M.map (kv f)) k (f v) = (put M k v).map (kv f) := by
  unfold put
  rw [look_kv, Option.isSome_map]
  split
  · rw [List.map_map, List.map_map]
    refine List.map_congr_left fun p _ => ?_
    by_cases h : (p.1 == k) = true <;> simp [Function.comp, kv, h]
  · simp [kv]
theorem del_kv {V : Type} (f : V → Value) (M : List (Int × V)) (k : Int) : del (M.map (kv f)) k = (del M k).map (kv f) := by
  unfold del
  rw [List.filter_map]; rfl
/-- two maps that hold related elements at the same keys, in the same order -/
def Zip {V U : Type} (R : V → U → Prop) (L : List (Int × V)) (M : List (Int × U)) : Prop := M.length = L.length ∧ ∀ (i : Nat) p q, L[i]? = some p → M[i]? = some q → p.1 = q.1 ∧ R p.2 q.2
theorem Zip.cons {V U : Type} {R : V → U → Prop} {p : Int × V} {q : Int × U} {L : List (Int × V)} {M : List (Int × U)} (h : Zip R (p :: L) (q :: M)) : (p.1 = q.1 ∧ R p.2 q.2) ∧ Zip R L M :=
  ⟨h.2 0 p q rfl rfl, by have := h.1; simp at this; exact this, fun i p' q' hp hq => h.2 (i + 1) p' q' (by simpa using hp) (by simpa using hq)⟩
theorem Zip.mk_cons {V U : Type} {R : V → U → Prop} {p : Int × V} {q : Int × U} {L : List (Int × V)} {M : List (Int × U)} (h : p.1 = q.1 ∧ R p.2 q.2) (hz : Zip R L M) : Zip R (p :: L) (q :: M) :=
  ⟨by have := hz.1; simp; exact this, fun i p' q' hp hq => by
    cases i with
    | zero => simp at hp hq; subst hp; subst hq; exact h
    | succ i => exact hz.2 i p' q' (by simpa using hp) (by simpa using hq)⟩
theorem Zip.look_some {V U : Type} {R : V → U → Prop} {k : Int} : ∀ {L : List (Int × V)} {M : List (Int × U)}, Zip R L M → (look L k = none ∧ look M k = none) ∨ ∃ x v, look L k = some x ∧ look M k = some v ∧ R x v
  | [], [], _ => .inl ⟨rfl, rfl⟩
  | [], q :: M, h => by have := h.1; simp at this
  | p :: L, [], h => by have := h.1; simp at this
  | p :: L, q :: M, h => by
    obtain ⟨⟨h1, h2⟩, hz⟩ := h.cons
    by_cases hk : p.1 = k
    · have hk' : q.1 = k := h1 ▸ hk
      exact .inr ⟨p.2, q.2, by simp [look, hk], by simp [look, hk'], h2⟩
    · have hk' : q.1 ≠ k := h1 ▸ hk
      have e1 : look (p :: L) k = look L k := by simp [look, hk]
      have e2 : look (q :: M) k = look M k := by simp [look, hk']
      rw [e1, e2]
      exact hz.look_some
theorem Zip.map_if {V U : Type} {R : V → U → Prop} {k : Int} {x : V} {v : U} (hx : R x v) : ∀ {L : List (Int × V)} {M : List (Int × U)}, Zip R L M → Zip R (L.map fun p => if p.1 == k then (k, x) else p) (M.map fun p => if p.1 == k then (k, v) else p)
  | [], [], h => h
  | [], q :: M, h => by have := h.1; simp at this
  | p :: L, [], h => by have := h.1; simp at this
  | p :: L, q :: M, h => by
    obtain ⟨⟨h1, h2⟩, hz⟩ := h.cons
    refine Zip.mk_cons ?_ (Zip.map_if hx hz)
    by_cases hk : p.1 = k
    · have hk' : q.1 = k := h1 ▸ hk
      simp [hk, hk', hx]
    · have hk' : q.1 ≠ k := h1 ▸ hk
      simp [hk, hk', h1, h2]
theorem Zip.snoc {V U : Type} {R : V → U → Prop} {k : Int} {x : V} {v : U} (hx : R x v) : ∀ {L : List (Int × V)} {M : List (Int × U)}, Zip R L M → Zip R (L ++ [(k, x)]) (M ++ [(k, v)])
  | [], [], _ => Zip.mk_cons ⟨rfl, hx⟩ ⟨rfl, fun i p q h => by simp at h⟩
  | [], q :: M, h => by have := h.1; simp at this
  | p :: L, [], h => by have := h.1; simp at this
  | p :: L, q :: M, h => Zip.mk_cons h.cons.1 (Zip.snoc hx h.cons.2)
theorem Zip.put_ {V U : Type} {R : V → U → Prop} {k : Int} {x : V} {v : U} {L : List (Int × V)} {M : List (Int × U)} (hx : R x v) (h : Zip R L M) : Zip R (put L k x) (put M k v) := by
  unfold put
  rcases h.look_some (k := k) with ⟨h1, h2⟩ | ⟨x', v', h1, h2, _⟩
  · rw [h1, h2]; exact h.snoc hx
  · rw [h1, h2]; exact h.map_if hx
theorem Zip.filter_ {V U : Type} {R : V → U → Prop} {k : Int} : ∀ {L : List (Int × V)} {M : List (Int × U)}, Zip R L M → Zip R (del L k) (del M k)
  | [], [], h => h
  | [], q :: M, h => by have := h.1; simp at this
  | p :: L, [], h => by have := h.1; simp at this
  | p :: L, q :: M, h => by
    obtain ⟨⟨h1, h2⟩, hz⟩ := h.cons
    have ih := Zip.filter_ (k := k) hz
    unfold del at ih ⊢
    by_cases hk : p.1 = k
    · have hk' : q.1 = k := h1 ▸ hk
      simpa [hk, hk'] using ih
    · have hk' : q.1 ≠ k := h1 ▸ hk
      simp only [List.filter_cons, bne_iff_ne, ne_eq, hk, hk', not_false_eq_true, if_true]
      exact Zip.mk_cons ⟨h1, h2⟩ ih
theorem StoreAt.put_items {w w' : World} {B0 g ri rp rq rl : Nat} {s : SS} (h : StoreAt w B0 g ri rp rq rl s) {I' : List (Int × Sheet)} {MI' : List (Int × Value)} (hg : w.grownBy w' (some ri)) (hM : MapOf w' ri MI')
    (hz : Zip (SheetVal w B0) I' MI') : StoreAt w' B0 g ri rp rq rl { s with items := I' } := by
  obtain ⟨n1, n2, n3, n4, n5, n6⟩ := h.ne
  have hgn := h.gne
  obtain ⟨MI, hm, _⟩ := h.items
  refine ⟨h.blk.grown hg (by simp; omega), h.low, ⟨MI', hM, hz.1, fun i p q hp hq => ⟨(hz.2 i p q hp hq).1, (hz.2 i p q hp hq).2.keep (b := ri) hg.size (fun k hk hne => hg.block k hk (by simpa using hne)) fun A hF => hF.ne_map hm h.low.2.1⟩⟩, h.pieces.grown hg (by simp; omega), h.parent.grown hg (by simp; omega), h.lots.grown hg (by simp; omega), h.ne⟩
theorem StoreAt.zip {w : World} {B0 g ri rp rq rl : Nat} {s : SS} (h : StoreAt w B0 g ri rp rq rl s) : ∃ MI, MapOf w ri MI ∧ Zip (SheetVal w B0) s.items MI := by
  obtain ⟨MI, hm, hl, hi⟩ := h.items
  exact ⟨MI, hm, hl, hi⟩
end
end Go.Proofs.Ytnejacogflkmmaa
