/- Cuttings: the plain words. -/
import Derived.Test.YtecaaimaeaocbaaDoorLib
namespace Go.Proofs.YtecaaimaeaocbaaDoor
open Go.RowKit
structure Ask where
  len : Int
  cnt : Int
instance : Inhabited Ask := ⟨⟨0, 0⟩⟩
def Ask.enc (a : Ask) : List Value := [.int .i64 a.len, .int .i64 a.cnt]
def inB (a n b : Int) : Bool := decide (a ≤ n) && decide (n ≤ b)
theorem inB_iff {a n b : Int} : inB a n b = true ↔ a ≤ n ∧ n ≤ b := by simp [inB]
theorem inB_false {a n b : Int} : inB a n b = false ↔ n < a ∨ b < n := by simp [inB]; omega
theorem ask_at {w : World} {B : Nat} {A : Option Addr} {xs : List Ask} {k : Nat} (h : Slc Ask.enc 2 w B A xs) (hk : k < xs.length) :
    ∃ n b off, xs[k]? = some n ∧ A = some ⟨b, off, none⟩ ∧ b < B ∧ w.cell? ⟨b, off + k * 2, none⟩ = some (.int .i64 n.len) ∧ w.cell? ⟨b, off + k * 2 + 1, none⟩ = some (.int .i64 n.cnt) := by
  have hx : xs[k]? = some xs[k] := List.getElem?_eq_getElem hk
  obtain ⟨b, off, ha, hb, h0⟩ := h k _ hx
  exact ⟨xs[k], b, off, hx, ha, hb, h0 0 _ rfl, h0 1 _ rfl⟩
def askOk (L : Int) (a : Ask) : Bool := inB 1 a.len L && inB 0 a.cnt 50
def validK (L K : Int) (l : List Ask) : Bool := inB 1 L 1000 && inB 0 K 20 && decide (l.length ≤ 8) && l.all (askOk L)
structure VK (L K : Int) (l : List Ask) : Prop where
  hL : 1 ≤ L ∧ L ≤ 1000
  hK : 0 ≤ K ∧ K ≤ 20
  few : l.length ≤ 8
  ask : ∀ a ∈ l, (1 ≤ a.len ∧ a.len ≤ L) ∧ 0 ≤ a.cnt ∧ a.cnt ≤ 50
theorem validK_iff {L K : Int} {l : List Ask} : validK L K l = true ↔ VK L K l := by
  unfold validK askOk
  simp only [Bool.and_eq_true, inB_iff, decide_eq_true_eq, List.all_eq_true]
  exact ⟨fun h => ⟨h.1.1.1, h.1.1.2, h.1.2, fun a ha => h.2 a ha⟩, fun h => ⟨⟨⟨h.hL, h.hK⟩, h.few⟩, fun a ha => h.ask a ha⟩⟩
theorem all_drop {α : Type} {f : α → Bool} {l : List α} {i : Nat} {x : α} (h : l[i]? = some x) : (l.drop i).all f = (f x && (l.drop (i + 1)).all f) := by
  obtain ⟨h1, h2⟩ := List.getElem?_eq_some_iff.1 h
  rw [List.drop_eq_getElem_cons h1, h2, List.all_cons]
theorem Slc.on {α : Type} {enc : α → List Value} {sz : Nat} {w w' : World} {A : Option Addr} {xs : List α} (h : Slc enc sz w w.heap.size A xs) (hb : Below w.heap.size w w') : Slc enc sz w' w'.heap.size A xs := (h.below hb).more hb.size
end Go.Proofs.YtecaaimaeaocbaaDoor
