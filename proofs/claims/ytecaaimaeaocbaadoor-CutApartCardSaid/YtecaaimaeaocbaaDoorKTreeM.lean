/- Trees of cuts as they lie in memory. -/
import Derived.Test.YtecaaimaeaocbaaDoorKLink
import Derived.Test.YtecaaimaeaocbaaDoorKTreeQ
import Derived.Test.YtecaaimaeaocbaaDoorOwn
import Derived.Test.YtecaaimaeaocbaaDoorChg
namespace Go.Proofs.YtecaaimaeaocbaaDoor
open Go Go.RowKit
/-- a cut as it lies in memory: its fields, and its parts as a slice -/
structure TV where
  op : Int
  n : Int
  pc : Int
  A : Option Addr
  k : Nat
  c : Nat
instance : Inhabited TV := ⟨⟨0, 0, 0, none, 0, 0⟩⟩
def TV.enc (t : TV) : List Value := [.int .i64 t.op, .int .i64 t.n, .int .u8 t.pc, .slice t.A t.k t.c]
theorem TV.enc_len (t : TV) : t.enc.length = 4 := rfl
def Tree.op : Tree → Int | .node op _ _ _ => op
def Tree.n : Tree → Int | .node _ n _ _ => n
def Tree.pc : Tree → Int | .node _ _ pc _ => pc
def Tree.ts : Tree → List Tree | .node _ _ _ ts => ts
/-- a tree of at most f levels lies in memory, in blocks from L on, below B -/
def TreeAt (w : World) (L B : Nat) : Nat → Tree → TV → Prop
  | 0, _, _ => False
  | f + 1, t, v => (v.op = t.op ∧ v.n = t.n ∧ v.pc = t.pc ∧ v.k = t.ts.length ∧ t.ts.length ≤ 9223372036854775807) ∧ (∀ p, v.A = some p → L ≤ p.block) ∧ ∃ vs : List TV, vs.length = t.ts.length ∧ Slc TV.enc 4 w B v.A vs ∧ ∀ (i : Nat) t' v', t.ts[i]? = some t' → vs[i]? = some v' → TreeAt w L B f t' v'
theorem TreeAt.keep {w w' : World} {L L' B B' : Nat} (hk : ∀ p : Addr, L ≤ p.block → p.block < B → w'.cell? p = w.cell? p) (hL : L' ≤ L) (hB : B ≤ B') : ∀ {f : Nat} {t : Tree} {v : TV}, TreeAt w L B f t v → TreeAt w' L' B' f t v
  | 0, _, _, h => h
  | f + 1, t, v, ⟨h1, h0, vs, h2, h3, h4⟩ => ⟨h1, fun p hp => Nat.le_trans hL (h0 p hp), vs, h2, fun i x hx => by
      obtain ⟨b, off, hA, hb, hc⟩ := h3 i x hx
      exact ⟨b, off, hA, Nat.lt_of_lt_of_le hb hB, fun j u hu => (hk ⟨b, off + i * 4 + j, none⟩ (show L ≤ b from h0 _ hA) hb).trans (hc j u hu)⟩, fun i t' v' a b => (h4 i t' v' a b).keep hk hL hB⟩
theorem TreeAt.on {w w' : World} {L f : Nat} {t : Tree} {v : TV} (h : TreeAt w L w.heap.size f t v) (hb : Below w.heap.size w w') : TreeAt w' L w'.heap.size f t v := h.keep (fun _ _ hp => hb.cell hp) (Nat.le_refl _) hb.size
theorem TreeAt.more {w : World} {L L' B B' f : Nat} {t : Tree} {v : TV} (h : TreeAt w L B f t v) (hL : L' ≤ L) (hB : B ≤ B') : TreeAt w L' B' f t v := h.keep (fun _ _ _ => rfl) hL hB
/-- what lies in the blocks from L to B has not turned -/
def Keeps (L B : Nat) (w w' : World) : Prop := w.heap.size ≤ w'.heap.size ∧ ∀ k, L ≤ k → k < B → w'.heap[k]? = w.heap[k]?
theorem Keeps.refl (L B : Nat) (w : World) : Keeps L B w w := ⟨Nat.le_refl _, fun _ _ _ => rfl⟩
theorem Keeps.chg1 {L B g : Nat} {w a b : World} (h : Keeps L B w a) (hc : Chg (fun k => k = g) a b) (hB : B ≤ w.heap.size) (hg : g < L ∨ B ≤ g) : Keeps L B w b :=
  ⟨Nat.le_trans h.1 hc.size, fun k h1 h2 => (hc.block k (by have := h.1; omega) (by omega)).trans (h.2 k h1 h2)⟩
theorem Keeps.below {L B : Nat} {w a b : World} (h : Keeps L B w a) (hb : Below a.heap.size a b) (hB : B ≤ w.heap.size) : Keeps L B w b :=
  ⟨Nat.le_trans h.1 hb.size, fun k h1 h2 => (hb.block k (by have := h.1; omega)).trans (h.2 k h1 h2)⟩
theorem Keeps.tree {L L' B : Nat} {w w' : World} (h : Keeps L B w w') (hB : B ≤ w.heap.size) (hL : L' ≤ L) {f : Nat} {t : Tree} {v : TV} (ht : TreeAt w L B f t v) : TreeAt w' L' w'.heap.size f t v :=
  ht.keep (fun p h1 h2 => World.cell?_of_block (h.2 _ h1 h2)) hL (Nat.le_trans hB h.1)
theorem TreeAt.up {w : World} {L B : Nat} : ∀ {f f' : Nat} {t : Tree} {v : TV}, TreeAt w L B f t v → f ≤ f' → TreeAt w L B f' t v
  | 0, _, _, _, h, _ => h.elim
  | f + 1, 0, _, _, _, hl => absurd hl (by omega)
  | f + 1, f' + 1, t, v, ⟨h1, h0, vs, h2, h3, h4⟩, hl => ⟨h1, h0, vs, h2, h3, fun i t' v' a b => (h4 i t' v' a b).up (by omega)⟩
/-- no level above a limit -/
def shT : Nat → Tree → Bool
  | 0, _ => false
  | l + 1, t => t.ts.all (shT l)
theorem TreeAt.cut_ {w : World} {L B : Nat} : ∀ {l f : Nat} {t : Tree} {v : TV}, TreeAt w L B f t v → shT l t = true → TreeAt w L B l t v
  | 0, _, _, _, _, h => by simp [shT] at h
  | _ + 1, 0, _, _, h, _ => h.elim
  | l + 1, f + 1, t, v, ⟨h1, h0, vs, h2, h3, h4⟩, hs => ⟨h1, h0, vs, h2, h3, fun i t' v' a b => (h4 i t' v' a b).cut_ (by
      unfold shT at hs
      exact List.all_eq_true.1 hs t' (List.mem_of_getElem? a))⟩
theorem TreeAt.sh {w : World} {L B : Nat} : ∀ {f : Nat} {t : Tree} {v : TV}, TreeAt w L B f t v → shT f t = true
  | 0, _, _, h => h.elim
  | f + 1, t, v, ⟨h1, _, vs, h2, h3, h4⟩ => by
    unfold shT
    refine List.all_eq_true.2 fun t' ht' => ?_
    obtain ⟨i, hi, he⟩ := List.mem_iff_getElem.1 ht'
    exact (h4 i t' (vs[i]'(by omega)) (by rw [← he]; exact List.getElem?_eq_getElem hi) (List.getElem?_eq_getElem (by omega))).sh
/-- the levels of a tree -/
def dpT : Nat → Tree → Nat
  | 0, _ => 0
  | f + 1, t => (t.ts.map (dpT f)).foldl max 0 + 1
def htT : Tree → Nat
  | .node _ _ _ [a, b] => max (htT a) (htT b) + 1
  | .node _ _ _ _ => 1
theorem htT_pos (t : Tree) : 1 ≤ htT t := by unfold htT; split <;> omega
theorem dp_ht {t : Tree} (hr : Right t) : ∀ {f : Nat}, htT t ≤ f → dpT f t = htT t := by
  induction hr with
  | waste =>
    intro f hf
    obtain ⟨f, rfl⟩ : ∃ g, f = g + 1 := ⟨f - 1, by simp [htT] at hf; omega⟩
    simp [dpT, htT, Tree.ts]
  | piece pc h1 h2 =>
    intro f hf
    obtain ⟨f, rfl⟩ : ∃ g, f = g + 1 := ⟨f - 1, by simp [htT] at hf; omega⟩
    simp [dpT, htT, Tree.ts]
  | cut op n a b _ _ _ _ _ iha ihb =>
    intro f hf
    obtain ⟨f, rfl⟩ : ∃ g, f = g + 1 := ⟨f - 1, by simp [htT] at hf; omega⟩
    simp only [htT] at hf
    simp only [dpT, htT, Tree.ts, List.map_cons, List.map_nil, List.foldl_cons, List.foldl_nil]
    rw [iha (by omega), ihb (by omega)]; omega
theorem sh_ht {t : Tree} (hr : Right t) : ∀ {f : Nat}, shT f t = true ↔ htT t ≤ f := by
  induction hr with
  | waste => intro f; cases f <;> simp [shT, htT, Tree.ts]
  | piece pc h1 h2 => intro f; cases f <;> simp [shT, htT, Tree.ts]
  | cut op n a b _ _ _ _ _ iha ihb =>
    intro f
    cases f with
    | zero => simp [shT, htT]
    | succ f =>
      simp only [shT, htT, Tree.ts, List.all_cons, List.all_nil, Bool.and_true, Bool.and_eq_true]
      rw [iha, ihb]; omega
theorem dpT_le : ∀ (f : Nat) (t : Tree), dpT f t ≤ f
  | 0, _ => Nat.le_refl _
  | f + 1, t => by
    have key : ∀ (l : List Nat) (m : Nat), m ≤ f → (∀ x ∈ l, x ≤ f) → l.foldl max m ≤ f := by
      intro l
      induction l with
      | nil => intro m hm _; exact hm
      | cons x l ih => intro m hm hl; exact ih (max m x) (by have := hl x (by simp); omega) (fun y hy => hl y (by simp [hy]))
    unfold dpT
    have := key (t.ts.map (dpT f)) 0 (by omega) fun x hx => by
      obtain ⟨y, _, rfl⟩ := List.mem_map.1 hx
      exact dpT_le f y
    omega
theorem fold_snoc {f k : Nat} {ts : List Tree} {t : Tree} (h : ts[k]? = some t) : ((ts.take (k + 1)).map (dpT f)).foldl max 0 = max (((ts.take k).map (dpT f)).foldl max 0) (dpT f t) := by
  rw [List.take_add_one, h]
  simp [List.foldl_append]
theorem fold_le (f : Nat) (ts : List Tree) : (ts.map (dpT f)).foldl max 0 ≤ f := by
  have := dpT_le (f + 1) (.node 0 0 0 ts)
  simp only [dpT, Tree.ts] at this
  omega
/-- the form of one node -/
def formF (op n pc : Int) (k : Nat) : Bool :=
  if op = 0 then decide (n = 0) && decide (pc = 0) && decide (k = 0)
  else if op = 1 then decide (n = 0) && (decide (97 ≤ pc) && decide (pc ≤ 122)) && decide (k = 0)
  else if op = 2 ∨ op = 3 then (decide (1 ≤ n) && decide (n ≤ 1000)) && decide (pc = 0) && decide (k = 2)
  else false
def formB (t : Tree) : Bool := formF t.op t.n t.pc t.ts.length
def rtT : Nat → Tree → Bool
  | 0, _ => false
  | f + 1, t => formB t && t.ts.all (rtT f)
theorem rt_right : ∀ {f : Nat} {t : Tree}, rtT f t = true → Right t
  | 0, _, h => by simp [rtT] at h
  | f + 1, .node op n pc ts, h => by
    unfold rtT at h
    rw [Bool.and_eq_true] at h
    obtain ⟨h1, h2⟩ := h
    replace h2 : ts.all (rtT f) = true := h2
    replace h1 : formF op n pc ts.length = true := h1
    unfold formF at h1
    by_cases e0 : op = 0
    · rw [if_pos e0] at h1
      simp only [Bool.and_eq_true, decide_eq_true_eq] at h1
      obtain ⟨⟨rfl, rfl⟩, h3⟩ := h1
      obtain rfl := List.length_eq_zero_iff.1 h3
      subst e0
      exact Right.waste
    · rw [if_neg e0] at h1
      by_cases e1 : op = 1
      · rw [if_pos e1] at h1
        simp only [Bool.and_eq_true, decide_eq_true_eq] at h1
        obtain ⟨⟨rfl, h4, h5⟩, h3⟩ := h1
        obtain rfl := List.length_eq_zero_iff.1 h3
        subst e1
        obtain ⟨m, rfl⟩ : ∃ m : Nat, pc = (m : Int) := ⟨pc.toNat, by omega⟩
        exact Right.piece m (by omega) (by omega)
      · rw [if_neg e1] at h1
        by_cases e : op = 2 ∨ op = 3
        · rw [if_pos e] at h1
          simp only [Bool.and_eq_true, decide_eq_true_eq] at h1
          obtain ⟨⟨⟨h4, h5⟩, rfl⟩, h3⟩ := h1
          obtain ⟨a, b, rfl⟩ : ∃ a b, ts = [a, b] := by
            match ts, h3 with
            | [a, b], _ => exact ⟨a, b, rfl⟩
          obtain ⟨m, rfl⟩ : ∃ m : Nat, n = (m : Int) := ⟨n.toNat, by omega⟩
          exact Right.cut op m a b e (by omega) (by omega) (rt_right (List.all_eq_true.1 h2 a (by simp))) (rt_right (List.all_eq_true.1 h2 b (by simp)))
        · rw [if_neg e] at h1
          cases h1
theorem right_form {t : Tree} (hr : Right t) : formB t = true := by
  cases hr with
  | waste => decide
  | piece pc h1 h2 =>
    show formF 1 0 pc 0 = true
    unfold formF
    rw [if_neg (by decide), if_pos rfl]
    simp only [decide_true, Bool.and_true, Bool.true_and, Bool.and_eq_true, decide_eq_true_eq]
    omega
  | cut op n a b hop h1 h2 =>
    show formF op n 0 2 = true
    unfold formF
    rw [if_neg (by omega), if_neg (by omega), if_pos hop]
    simp only [decide_true, Bool.and_true, Bool.true_and, Bool.and_eq_true, decide_eq_true_eq]
    omega
theorem right_rt {t : Tree} (hr : Right t) : ∀ {f : Nat}, htT t ≤ f → rtT f t = true := by
  induction hr with
  | waste =>
    intro f hf
    obtain ⟨f, rfl⟩ : ∃ g, f = g + 1 := ⟨f - 1, by simp [htT] at hf; omega⟩
    unfold rtT
    rw [right_form Right.waste]; rfl
  | piece pc h1 h2 =>
    intro f hf
    obtain ⟨f, rfl⟩ : ∃ g, f = g + 1 := ⟨f - 1, by simp [htT] at hf; omega⟩
    unfold rtT
    rw [right_form (Right.piece pc h1 h2)]; rfl
  | cut op n a b h1 h2 h3 h4 h5 iha ihb =>
    intro f hf
    obtain ⟨f, rfl⟩ : ∃ g, f = g + 1 := ⟨f - 1, by simp [htT] at hf; omega⟩
    simp only [htT] at hf
    unfold rtT
    rw [right_form (Right.cut op n a b h1 h2 h3 h4 h5)]
    simp only [Tree.ts, List.all_cons, List.all_nil, Bool.and_true, Bool.true_and, Bool.and_eq_true]
    exact ⟨iha (by omega), ihb (by omega)⟩
/-- the length of the text of a tree -/
theorem digT_len {n : Nat} (h : n ≤ 1000) : (digT n).length ≤ 4 := digT_short h
theorem text_len {t : Tree} (hr : Right t) : ∀ {f : Nat}, htT t ≤ f → (textT t).length + 16 ≤ 16 * 2 ^ f := by
  have h1 : ∀ f, 1 ≤ f → 32 ≤ 16 * 2 ^ f := fun f hf => by
    obtain ⟨g, rfl⟩ : ∃ g, f = g + 1 := ⟨f - 1, by omega⟩
    have := Nat.one_le_two_pow (n := g)
    rw [Nat.pow_succ]; omega
  induction hr with
  | waste =>
    intro f hf
    have := h1 f (by simp [htT] at hf; omega)
    simp [textT]; omega
  | piece pc _ _ =>
    intro f hf
    have := h1 f (by simp [htT] at hf; omega)
    simp [textT]; omega
  | cut op n a b hop h2 h3 _ _ iha ihb =>
    intro f hf
    obtain ⟨f, rfl⟩ : ∃ g, f = g + 1 := ⟨f - 1, by simp [htT] at hf; omega⟩
    simp only [htT] at hf
    have a1 := iha (f := f) (by omega)
    have b1 := ihb (f := f) (by omega)
    have d1 := digT_len h3
    have e : (if op = 3 then [118, 32] else [104, 32] : Bs).length = 2 := by split <;> rfl
    rw [Nat.pow_succ]
    simp only [textT, List.length_append, e, List.length_cons, List.length_nil, Int.toNat_natCast]
    omega
theorem ht_text {t : Tree} (hr : Right t) : htT t ≤ (textT t).length := by
  induction hr with
  | waste => simp [htT, textT]
  | piece => simp [htT, textT]
  | cut op n a b hop _ _ _ _ iha ihb =>
    simp only [htT, textT, List.length_append, List.length_cons, List.length_nil]
    omega
/-- a part of a tree in memory, with plain variables -/
theorem part_at {w : World} {L B f : Nat} {t : Tree} {v : TV} (h : TreeAt w L B (f + 1) t v) {i : Nat} (hi : i < t.ts.length) :
    ∃ t' op n pc A k c b off, t.ts[i]? = some t' ∧ v.A = some ⟨b, off, none⟩ ∧ b < B ∧ TreeAt w L B f t' ⟨op, n, pc, A, k, c⟩ ∧
      w.cell? ⟨b, off + i * 4, none⟩ = some (.int .i64 op) ∧ w.cell? ⟨b, off + i * 4 + 1, none⟩ = some (.int .i64 n) ∧ w.cell? ⟨b, off + i * 4 + 2, none⟩ = some (.int .u8 pc) ∧ w.cell? ⟨b, off + i * 4 + 3, none⟩ = some (.slice A k c) := by
  obtain ⟨_, _, vs, h2, h3, h4⟩ := h
  have ht : t.ts[i]? = some t.ts[i] := List.getElem?_eq_getElem hi
  obtain ⟨x, hv⟩ : ∃ x, vs[i]? = some x := ⟨_, List.getElem?_eq_getElem (by omega)⟩
  have h5 := h4 i _ _ ht hv
  obtain ⟨b, off, hA, hb, hc⟩ := h3 i _ hv
  obtain ⟨op, n, pc, A, k, c⟩ := x
  exact ⟨_, op, n, pc, A, k, c, b, off, ht, hA, hb, h5, by simpa using hc 0 _ rfl, hc 1 _ rfl, hc 2 _ rfl, hc 3 _ rfl⟩
/-- the head of a tree in memory -/
theorem TreeAt.head {w : World} {L B f : Nat} {t : Tree} {v : TV} (h : TreeAt w L B f t v) : v.op = t.op ∧ v.n = t.n ∧ v.pc = t.pc ∧ v.k = t.ts.length ∧ t.ts.length ≤ 9223372036854775807 := by
  cases f with
  | zero => exact h.elim
  | succ f => exact h.1
theorem TreeAt.succ_ {w : World} {L B f : Nat} {t : Tree} {v : TV} (h : TreeAt w L B f t v) : ∃ g, f = g + 1 := by
  cases f with
  | zero => exact h.elim
  | succ f => exact ⟨f, rfl⟩
theorem TreeAt.leaf {w : World} {L B f : Nat} (op n pc : Int) : TreeAt w L B (f + 1) (.node op n pc []) ⟨op, n, pc, none, 0, 0⟩ := ⟨⟨rfl, rfl, rfl, rfl, by simp [Tree.ts]⟩, fun p h => (by cases h), [], rfl, Slc.nil_, fun i t' v' h => by simp [Tree.ts] at h⟩
/-- a cut of two parts, laid into a block of its own -/
theorem TreeAt.two {w : World} {L g f : Nat} {ta tb : Tree} {a b : TV} {op n : Int} (hB : Blk w g 60 (a.enc ++ b.enc).toArray) (hg : L ≤ g) (ha : TreeAt w L w.heap.size f ta a) (hb : TreeAt w L w.heap.size f tb b) : TreeAt w L w.heap.size (f + 1) (.node op n 0 [ta, tb]) ⟨op, n, 0, some ⟨g, 0, none⟩, 2, 2⟩ := by
  refine ⟨⟨rfl, rfl, rfl, rfl, by simp [Tree.ts]⟩, fun p hp => by injection hp with hp; subst hp; exact hg, [a, b], rfl, ?_, fun i t' v' h1 h2 => ?_⟩
  · exact blk_slc (l := [a, b]) hB (by simp) TV.enc_len
  · match i with
    | 0 =>
      simp only [Tree.ts, List.getElem?_cons_zero, Option.some.injEq] at h1 h2
      subst h1 h2; exact ha
    | 1 =>
      simp only [Tree.ts, List.getElem?_cons_succ, List.getElem?_cons_zero, Option.some.injEq] at h1 h2
      subst h1 h2; exact hb
    | i + 2 => simp [Tree.ts] at h1
end Go.Proofs.YtecaaimaeaocbaaDoor
