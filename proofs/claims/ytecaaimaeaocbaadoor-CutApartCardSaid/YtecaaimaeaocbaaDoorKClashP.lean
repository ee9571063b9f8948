/- Places on a plate: the plain words. -/
import Derived.Test.YtecaaimaeaocbaaDoorKP
namespace Go.Proofs.YtecaaimaeaocbaaDoor
open Go.RowKit
structure Pl where
  pc : Int
  x : Int
  y : Int
  w : Int
  h : Int
instance : Inhabited Pl := ⟨⟨0, 0, 0, 0, 0⟩⟩
def Pl.enc (p : Pl) : List Value := [.int .u8 p.pc, .int .i64 p.x, .int .i64 p.y, .int .i64 p.w, .int .i64 p.h]
theorem pl_at {w : World} {B : Nat} {A : Option Addr} {xs : List Pl} {k : Nat} (h : Slc Pl.enc 5 w B A xs) (hk : k < xs.length) :
    ∃ p b off, xs[k]? = some p ∧ A = some ⟨b, off, none⟩ ∧ b < B ∧ w.cell? ⟨b, off + k * 5, none⟩ = some (.int .u8 p.pc) ∧ w.cell? ⟨b, off + k * 5 + 1, none⟩ = some (.int .i64 p.x)
      ∧ w.cell? ⟨b, off + k * 5 + 2, none⟩ = some (.int .i64 p.y) ∧ w.cell? ⟨b, off + k * 5 + 3, none⟩ = some (.int .i64 p.w) ∧ w.cell? ⟨b, off + k * 5 + 4, none⟩ = some (.int .i64 p.h) := by
  have hx : xs[k]? = some xs[k] := List.getElem?_eq_getElem hk
  obtain ⟨b, off, ha, hb, h0⟩ := h k _ hx
  exact ⟨xs[k], b, off, hx, ha, hb, h0 0 _ rfl, h0 1 _ rfl, h0 2 _ rfl, h0 3 _ rfl, h0 4 _ rfl⟩
def plIn (p : Pl) : Bool := inB 1 p.w 1000 && inB 1 p.h 1000 && inB 0 p.x 1000 && inB 0 p.y 1000
structure PIn (p : Pl) : Prop where
  w : 1 ≤ p.w ∧ p.w ≤ 1000
  h : 1 ≤ p.h ∧ p.h ≤ 1000
  x : 0 ≤ p.x ∧ p.x ≤ 1000
  y : 0 ≤ p.y ∧ p.y ≤ 1000
theorem plIn_iff {p : Pl} : plIn p = true ↔ PIn p := by
  unfold plIn
  simp only [Bool.and_eq_true, inB_iff]
  exact ⟨fun h => ⟨h.1.1.1, h.1.1.2, h.1.2, h.2⟩, fun h => ⟨⟨⟨h.w, h.h⟩, h.x⟩, h.y⟩⟩
def plateOk (W H K : Int) : Bool := inB 1 W 1000 && inB 1 H 1000 && inB 0 K 20
structure POk (W H K : Int) : Prop where
  w : 1 ≤ W ∧ W ≤ 1000
  h : 1 ≤ H ∧ H ≤ 1000
  k : 0 ≤ K ∧ K ≤ 20
theorem plateOk_iff {W H K : Int} : plateOk W H K = true ↔ POk W H K := by
  unfold plateOk
  simp only [Bool.and_eq_true, inB_iff]
  exact ⟨fun h => ⟨h.1.1, h.1.2, h.2⟩, fun h => ⟨⟨h.w, h.h⟩, h.k⟩⟩
def validC (W H K : Int) (l : List Pl) : Bool := plateOk W H K && decide (l.length ≤ 1000) && l.all plIn
def outB (W H : Int) (p : Pl) : Bool := decide (W < p.x + p.w) || decide (H < p.y + p.h)
def apB (K : Int) (a b : Pl) : Bool := decide (a.x + a.w + K ≤ b.x) || decide (b.x + b.w + K ≤ a.x) || decide (a.y + a.h + K ≤ b.y) || decide (b.y + b.h + K ≤ a.y)
theorem apB_comm {K : Int} {a b : Pl} : apB K a b = apB K b a := by
  rw [Bool.eq_iff_iff]
  simp only [apB, Bool.or_eq_true, decide_eq_true_eq]
  omega
def clB (W H K : Int) (l : List Pl) : Bool := !(l.all (fun p => !outB W H p) && decide (l.Pairwise fun a b => apB K a b = true))
theorem clB_nil {W H K : Int} : clB W H K [] = false := rfl
theorem clB_snoc {W H K : Int} {l : List Pl} {i : Nat} {p : Pl} (h : l[i]? = some p) : clB W H K (l.take (i + 1)) = (clB W H K (l.take i) || outB W H p || (l.take i).any fun q => !apB K p q) := by
  rw [List.take_add_one, h, Option.toList_some]
  rw [Bool.eq_iff_iff, ← Bool.not_eq_false, ← Bool.not_eq_false]
  unfold clB
  simp only [Bool.or_eq_false_iff, Bool.not_eq_false', Bool.and_eq_true, List.all_append, List.all_cons, List.all_nil, decide_eq_true_eq, List.pairwise_append, List.pairwise_cons, List.any_eq_false, Bool.not_eq_true']
  simp only [List.mem_singleton, forall_eq, List.Pairwise.nil, List.not_mem_nil, false_imp_iff, implies_true, and_true, true_and]
  refine not_congr ⟨fun ⟨⟨h1, h2⟩, h3, h4⟩ => ⟨⟨⟨h1, h3⟩, h2⟩, fun q hq => ?_⟩, fun ⟨⟨⟨h1, h3⟩, h2⟩, h4⟩ => ⟨⟨h1, h2⟩, h3, fun q hq => ?_⟩⟩
  · rw [apB_comm]; simp [h4 q hq]
  · have := h4 q hq
    rw [apB_comm]; simpa using this
theorem clB_rev {W H K : Int} {l : List Pl} : clB W H K l.reverse = clB W H K l := by
  unfold clB
  have : (decide (l.reverse.Pairwise fun a b => apB K a b = true)) = decide (l.Pairwise fun a b => apB K a b = true) := by
    rw [decide_eq_decide, List.pairwise_reverse]
    exact ⟨fun h => h.imp fun e => by rw [apB_comm]; exact e, fun h => h.imp fun e => by rw [apB_comm]; exact e⟩
  rw [this, List.all_reverse]
theorem validC_rev {W H K : Int} {l : List Pl} : validC W H K l.reverse = validC W H K l := by
  unfold validC
  rw [List.length_reverse, List.all_reverse]
theorem validC_all {W H K : Int} {l : List Pl} (h : validC W H K l = true) {i : Nat} {p : Pl} (hp : l[i]? = some p) : PIn p := by
  unfold validC at h
  simp only [Bool.and_eq_true, List.all_eq_true] at h
  exact plIn_iff.1 (h.2 p (List.mem_of_getElem? hp))
def cE (W H K : Int) (l : List Pl) : Int := if validC W H K l then 0 else 2
def cB (W H K : Int) (l : List Pl) : Bool := if validC W H K l then clB W H K l else false
theorem cE_rev {W H K : Int} {l : List Pl} : cE W H K l.reverse = cE W H K l := by unfold cE; rw [validC_rev]
theorem cB_rev {W H K : Int} {l : List Pl} : cB W H K l.reverse = cB W H K l := by unfold cB; rw [validC_rev, clB_rev]
theorem clB_more {W H K : Int} {l : List Pl} {n : Nat} (h : clB W H K (l.take n) = true) : clB W H K l = true := by
  cases e : clB W H K l with
  | true => rfl
  | false =>
    rw [← h]
    unfold clB at e ⊢
    simp only [Bool.not_eq_false', Bool.and_eq_true, List.all_eq_true, decide_eq_true_eq] at e
    obtain ⟨h1, h2⟩ := e
    symm
    simp only [Bool.not_eq_false', Bool.and_eq_true, List.all_eq_true, decide_eq_true_eq]
    exact ⟨fun p hp => h1 p (List.mem_of_mem_take hp), h2.sublist (List.take_sublist n l)⟩
theorem pl_at2 {w : World} {B b off : Nat} {xs : List Pl} {k : Nat} (h : Slc Pl.enc 5 w B (some ⟨b, off, none⟩) xs) (hk : k < xs.length) :
    ∃ p, xs[k]? = some p ∧ w.cell? ⟨b, off + k * 5, none⟩ = some (.int .u8 p.pc) ∧ w.cell? ⟨b, off + k * 5 + 1, none⟩ = some (.int .i64 p.x)
      ∧ w.cell? ⟨b, off + k * 5 + 2, none⟩ = some (.int .i64 p.y) ∧ w.cell? ⟨b, off + k * 5 + 3, none⟩ = some (.int .i64 p.w) ∧ w.cell? ⟨b, off + k * 5 + 4, none⟩ = some (.int .i64 p.h) := by
  obtain ⟨p, b', off', hx, hA, _, h0⟩ := pl_at h hk
  injection hA with hA
  injection hA with e1 e2
  subst e1 e2
  exact ⟨p, hx, h0⟩
theorem any_snoc {α : Type} {f : α → Bool} {l : List α} {i : Nat} {x : α} (h : l[i]? = some x) : (l.take (i + 1)).any f = ((l.take i).any f || f x) := by
  rw [List.take_add_one, h, Option.toList_some, List.any_append]; simp
end Go.Proofs.YtecaaimaeaocbaaDoor
