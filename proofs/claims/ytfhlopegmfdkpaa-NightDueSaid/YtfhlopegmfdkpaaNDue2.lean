/- measured and Measures: the walks. -/
import Derived.Test.YtfhlopegmfdkpaaNDue1
import Derived.Test.YtfhlopegmfdkpaaNCheck
namespace Go.Proofs.Ytfhlopegmfdkpaa
open Go Go.RowKit
theorem ms_at {w : World} {B : Nat} {A : Option Addr} {xs : List Ms} {k : Nat} (h : Slc Ms.enc 2 w B A xs) (hk : k < xs.length) :
    ∃ n b off, xs[k]? = some n ∧ A = some ⟨b, off, none⟩ ∧ b < B ∧ w.cell? ⟨b, off + k * 2, none⟩ = some (.int .i64 n.day) ∧ w.cell? ⟨b, off + k * 2 + 1, none⟩ = some (.int .i64 n.r) := by
  have hx : xs[k]? = some xs[k] := List.getElem?_eq_getElem hk
  obtain ⟨b, off, ha, hb, h0⟩ := h k _ hx
  exact ⟨xs[k], b, off, hx, ha, hb, h0 0 _ rfl, h0 1 _ rfl⟩
/-- the day before place i -/
def prevD (ms : List Ms) : Nat → Option Int
  | 0 => none
  | i + 1 => (ms[i]?).map Ms.day
def msR (ms : List Ms) (i : Nat) : Bool := msB (prevD ms i) (ms.drop i)
def stepB (ms : List Ms) (i : Nat) (x : Ms) : Bool := inB 0 x.day 100000 && inB 0 x.r 100000 && (match prevD ms i with | some d => decide (d < x.day) | none => true)
theorem msR_step {ms : List Ms} {i : Nat} {x : Ms} (h : ms[i]? = some x) : msR ms i = (stepB ms i x && msR ms (i + 1)) := by
  obtain ⟨h1, h2⟩ := List.getElem?_eq_some_iff.1 h
  unfold msR stepB
  rw [List.drop_eq_getElem_cons h1, h2]
  have e : prevD ms (i + 1) = some x.day := by
    show (ms[i]?).map Ms.day = _
    rw [h]; rfl
  rw [e]
  rfl
theorem msR_end (ms : List Ms) : msR ms ms.length = true := by unfold msR; rw [List.drop_length]; rfl
/-- the parts that stay, from place i on -/
def kR (k0 k1 k2 k3 : Int) : Nat → Bool
  | 0 => kOk k0 k1 k2 k3
  | 1 => inB 0 k1 1000 && inB 0 k2 1000 && inB 0 k3 1000
  | 2 => inB 0 k2 1000 && inB 0 k3 1000
  | 3 => inB 0 k3 1000
  | _ => true
theorem kR_step {k0 k1 k2 k3 : Int} {i : Nat} {k : Int} (h : ([k0, k1, k2, k3] : List Int)[i]? = some k) : kR k0 k1 k2 k3 i = (inB 0 k 1000 && kR k0 k1 k2 k3 (i + 1)) := by
  match i, h with
  | 0, h => simp at h; subst h; simp only [kR, kOk, Bool.and_assoc]
  | 1, h => simp at h; subst h; simp only [kR, Bool.and_assoc]
  | 2, h => simp at h; subst h; rfl
  | 3, h => simp at h; subst h; show _ = (_ && true); rw [Bool.and_true]; rfl
  | i + 4, h => simp at h
theorem meas_side {k0 k1 k2 k3 side : Int} {ms : List Ms} (h : inB 0 side 3 = false) : measB k0 k1 k2 k3 side ms = false := by unfold measB; rw [h]; rfl
theorem meas_len {k0 k1 k2 k3 side : Int} {ms : List Ms} (h : ¬ (1 ≤ ms.length ∧ ms.length ≤ 50)) : measB k0 k1 k2 k3 side ms = false := by unfold measB; rw [decide_eq_false h]; simp
theorem meas_is {k0 k1 k2 k3 side : Int} {ms : List Ms} (h : inB 0 side 3 = true) (h1 : 1 ≤ ms.length ∧ ms.length ≤ 50) : measB k0 k1 k2 k3 side ms = (kR k0 k1 k2 k3 0 && msR ms 0) := by
  unfold measB
  rw [h, decide_eq_true h1, Bool.true_and, Bool.true_and]
  rfl
end Go.Proofs.Ytfhlopegmfdkpaa
