/- Plans: the plain words. -/
import Derived.Test.YtecaaimaeaocbaaDoorKBatch
import Derived.Test.YtecaaimaeaocbaaDoorKFits
namespace Go.Proofs.YtecaaimaeaocbaaDoor
open Go Go.RowKit
structure Bat where
  t : Int
  ps : List Int
instance : Inhabited Bat := ⟨⟨0, []⟩⟩
structure PlanAt (w : World) (A : Option Addr) (bs : List Bt) (pl : List Bat) : Prop where
  row : Slc Bt.enc 2 w w.heap.size A bs
  len : bs.length = pl.length
  in_ : ∀ (i : Nat) b p, bs[i]? = some b → pl[i]? = some p → b.t = p.t ∧ b.n = p.ps.length ∧ Slc intEnc 1 w w.heap.size b.A p.ps
theorem PlanAt.on {w w' : World} {A : Option Addr} {bs : List Bt} {pl : List Bat} (h : PlanAt w A bs pl) (hb : Below w.heap.size w w') : PlanAt w' A bs pl :=
  ⟨h.row.on hb, h.len, fun i b p h1 h2 => by
    obtain ⟨a, b, c⟩ := h.in_ i b p h1 h2
    exact ⟨a, b, c.on hb⟩⟩
theorem plan_at {w : World} {A : Option Addr} {bs : List Bt} {pl : List Bat} {k : Nat} (h : PlanAt w A bs pl) (hk : k < pl.length) :
    ∃ p b off A' c', pl[k]? = some p ∧ A = some ⟨b, off, none⟩ ∧ b < w.heap.size ∧ w.cell? ⟨b, off + k * 2, none⟩ = some (.int .i64 p.t) ∧ w.cell? ⟨b, off + k * 2 + 1, none⟩ = some (.slice A' p.ps.length c') ∧ Slc intEnc 1 w w.heap.size A' p.ps := by
  obtain ⟨⟨t, A', n, c⟩, b, off, hx, hA, hb, h0, h1⟩ := bt_at h.row (show k < bs.length by rw [h.len]; exact hk)
  have hp : pl[k]? = some pl[k] := List.getElem?_eq_getElem hk
  obtain ⟨e1, e2, e3⟩ := h.in_ k _ _ hx hp
  dsimp only at e1 e2 e3 h0 h1
  rw [e1] at h0
  rw [e2] at h1
  exact ⟨_, b, off, A', c, hp, hA, hb, h0, h1, e3⟩
def shapedP (n : Nat) (pl : List Bat) : Bool := decide (pl.length ≤ 1000) && pl.all fun b => inB 1 b.t 1000 && decide (b.ps.length = n)
theorem all_at {α : Type} {f : α → Bool} {l : List α} : l.all f = true ↔ ∀ (i : Nat) x, l[i]? = some x → f x = true := by
  rw [List.all_eq_true]
  exact ⟨fun h i x hx => h x (List.mem_of_getElem? hx), fun h x hx => by
    obtain ⟨i, hi⟩ := List.getElem?_of_mem hx
    exact h i x hi⟩
theorem shapedB_plan {w : World} {A : Option Addr} {bs : List Bt} {pl : List Bat} (h : PlanAt w A bs pl) (n : Nat) : shapedB n bs = shapedP n pl := by
  unfold shapedB shapedP
  rw [h.len]
  congr 1
  rw [Bool.eq_iff_iff, all_at, all_at]
  constructor
  · intro h1 i p hp
    obtain ⟨b, hb⟩ : ∃ b, bs[i]? = some b := ⟨_, List.getElem?_eq_getElem (by rw [h.len]; exact (List.getElem?_eq_some_iff.1 hp).1)⟩
    obtain ⟨e1, e2, _⟩ := h.in_ i b p hb hp
    have := h1 i b hb
    rw [e1, e2] at this; exact this
  · intro h1 i b hb
    obtain ⟨p, hp⟩ : ∃ p, pl[i]? = some p := ⟨_, List.getElem?_eq_getElem (by rw [← h.len]; exact (List.getElem?_eq_some_iff.1 hb).1)⟩
    obtain ⟨e1, e2, _⟩ := h.in_ i b p hb hp
    have := h1 i p hp
    rw [e1, e2]; exact this
theorem shaped_at {n : Nat} {pl : List Bat} (h : shapedP n pl = true) {i : Nat} {p : Bat} (hp : pl[i]? = some p) : (1 ≤ p.t ∧ p.t ≤ 1000) ∧ p.ps.length = n := by
  unfold shapedP at h
  rw [Bool.and_eq_true] at h
  have := all_at.1 h.2 i p hp
  simp only [Bool.and_eq_true, inB_iff, decide_eq_true_eq] at this
  exact this
theorem shaped_few {n : Nat} {pl : List Bat} (h : shapedP n pl = true) : pl.length ≤ 1000 := by
  unfold shapedP at h
  rw [Bool.and_eq_true, decide_eq_true_eq] at h
  exact h.1
/-- the pieces of ask j that a plan makes -/
def totI (pl : List Bat) (j : Nat) : Int := (pl.map fun b => b.t * b.ps.getD j 0).sum
theorem totI_snoc {pl : List Bat} {i : Nat} {b : Bat} (h : pl[i]? = some b) (j : Nat) : totI (pl.take (i + 1)) j = totI (pl.take i) j + b.t * b.ps.getD j 0 := by
  unfold totI
  rw [List.take_add_one, h, Option.toList_some, List.map_append, List.sum_append]; simp
theorem fits_ok {L K : Int} {l : List Ask} {ps : List Int} (h : fitsB L K l ps = true) : ∀ p ∈ ps, 0 ≤ p ∧ p ≤ 50 := by
  unfold fitsB at h
  rw [Bool.and_eq_true] at h
  exact okP_iff.1 h.1
theorem getD_ok {ps : List Int} (h : ∀ p ∈ ps, 0 ≤ p ∧ p ≤ 50) (j : Nat) : 0 ≤ ps.getD j 0 ∧ ps.getD j 0 ≤ 50 := by
  rw [List.getD_eq_getElem?_getD]
  cases e : ps[j]? with
  | none => simp
  | some v => exact h v (List.mem_of_getElem? e)
theorem term_ok {t p : Int} (ht : 1 ≤ t ∧ t ≤ 1000) (hp : 0 ≤ p ∧ p ≤ 50) : 0 ≤ t * p ∧ t * p ≤ 50000 := by
  refine ⟨Int.mul_nonneg (by omega) hp.1, ?_⟩
  calc t * p ≤ 1000 * 50 := Int.mul_le_mul ht.2 hp.2 hp.1 (by omega)
    _ ≤ 50000 := by omega
theorem totI_low (j : Nat) : ∀ pl : List Bat, (∀ b ∈ pl, (1 ≤ b.t ∧ b.t ≤ 1000) ∧ ∀ p ∈ b.ps, 0 ≤ p ∧ p ≤ 50) → 0 ≤ totI pl j ∧ totI pl j ≤ pl.length * 50000
  | [], _ => by simp [totI]
  | b :: pl, h => by
    have ih := totI_low j pl fun b hb => h b (List.mem_cons_of_mem _ hb)
    obtain ⟨h1, h2⟩ := h b (List.mem_cons_self ..)
    have := term_ok h1 (getD_ok h2 j)
    have e : totI (b :: pl) j = b.t * b.ps.getD j 0 + totI pl j := by simp [totI]
    rw [e, List.length_cons]; push_cast; omega
def askB (pl : List Bat) (l : List Ask) (i : Nat) : Bool := decide (totI pl i = (l[i]?.getD default).cnt)
def madeB (pl : List Bat) (l : List Ask) : Bool := (List.range l.length).all (askB pl l)
def chkE (L K : Int) (l : List Ask) (pl : List Bat) : Int :=
  if validK L K l then if shapedP l.length pl then if pl.all (fun b => fitsB L K l b.ps) then if madeB pl l then 0 else 42 else 41 else 2 else 40
theorem totI_take_low {n : Nat} {L K : Int} {l : List Ask} {pl : List Bat} (hs : shapedP n pl = true) {i : Nat} (hf : ∀ (j : Nat) b, j < i → pl[j]? = some b → fitsB L K l b.ps = true) (j : Nat) : 0 ≤ totI (pl.take i) j ∧ totI (pl.take i) j ≤ 50000000 := by
  have h := totI_low j (pl.take i) fun b hb => by
    obtain ⟨q, hq⟩ := List.getElem?_of_mem hb
    have hqi : q < i := by
      have := (List.getElem?_eq_some_iff.1 hq).1
      simp at this; omega
    rw [List.getElem?_take, if_pos hqi] at hq
    exact ⟨(shaped_at hs hq).1, fits_ok (hf q b hqi hq)⟩
  have h2 := shaped_few hs
  have h3 : (pl.take i).length ≤ 1000 := by simp; omega
  omega
end Go.Proofs.YtecaaimaeaocbaaDoor
