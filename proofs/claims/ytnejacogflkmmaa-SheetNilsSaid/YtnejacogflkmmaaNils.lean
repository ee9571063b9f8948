/- The calls of a nil and of a zero store. -/
import Derived.Test.YtnejacogflkmmaaAwake
import Derived.Test.YtnejacogflkmmaaDraw
namespace Go.Proofs.Ytnejacogflkmmaa
open Go Go.RowKit
/-- there is no store: nil, or the zero value -/
def NoStore (w : World) (v : Value) : Prop := v = .pointer none ∨ ∃ g, v = .pointer (some ⟨g, 0, none⟩) ∧ w.cell? ⟨g, 5, none⟩ = some (.bool false) ∧ g < w.heap.size
theorem NoStore.below {w w' : World} {v : Value} (h : NoStore w v) (hb : Below w.heap.size w w') : NoStore w' v := by
  rcases h with rfl | ⟨g, rfl, h1, h2⟩
  · exact .inl rfl
  · exact .inr ⟨g, rfl, (hb.cell h2).trans h1, by have := hb.size; omega⟩
theorem NoStore.alloc {w : World} {v : Value} (h : NoStore w v) (o : Obj) : NoStore (w.alloc o) v := h.below ((Below.refl _ _).alloc (Nat.le_refl _) o)
set_option maxRecDepth 100000 in
theorem none_yes (v : Value) (w : World) (h : NoStore w v) : Calls Try.prog 45 #[v] w fun e w' => e = .returned (.bool true) ∧ w = w' := by
  rcases h with rfl | ⟨g, rfl, h1, h2⟩
  · go_enter Try.func45, Try.ntmps45
    go_wp2
    go_ret
    exact ⟨rfl, rfl⟩
  · go_enter Try.func45, Try.ntmps45
    go_wp2
    go_ret
    exact ⟨rfl, rfl⟩
section
variable (v : Value) (w : World)
def NilTwo (w : World) (e : Ending) (w' : World) : Prop := e = .returned (.tuple #[.slice none 0 0, .int .i64 2]) ∧ Below w.heap.size w w'
def NilOne (x : Value) (w : World) (e : Ending) (w' : World) : Prop := e = .returned x ∧ Below w.heap.size w w'
theorem lots_none (h : NoStore w v) (a b c d f day : Int) : Calls Try.prog 29 #[v, .agg #[.int .i64 a, .int .i64 b, .int .i64 c, .int .i64 d, .int .i64 f], .int .i64 day] w (NilTwo w) := by
  go_enter Try.func29, Try.ntmps29
  go_wp2_with fail
  refine (none_yes v _ (h.alloc _)).mono ?_
  rintro e w' ⟨rfl, rfl⟩
  go_wp2_with fail
  go_ret2
  exact ⟨rfl, (Below.refl _ _).alloc (Nat.le_refl _) _⟩
theorem take_none (h : NoStore w v) (a b c d f day : Int) : Calls Try.prog 30 #[v, .agg #[.int .i64 a, .int .i64 b, .int .i64 c, .int .i64 d, .int .i64 f], .int .i64 day] w (NilTwo w) := by
  go_enter Try.func30, Try.ntmps30
  go_wp2_with fail
  refine (none_yes v _ (h.alloc _)).mono ?_
  rintro e w' ⟨rfl, rfl⟩
  go_wp2_with fail
  go_ret2
  exact ⟨rfl, (Below.refl _ _).alloc (Nat.le_refl _) _⟩
theorem expire_none (h : NoStore w v) (day : Int) : Calls Try.prog 33 #[v, .int .i64 day] w (NilTwo w) := by
  go_enter Try.func33, Try.ntmps33
  go_wp2_with fail
  refine (none_yes v _ h).mono ?_
  rintro e w' ⟨rfl, rfl⟩
  go_wp2_with fail
  go_ret2
  exact ⟨rfl, Below.refl _ _⟩
theorem recall_none (h : NoStore w v) (lot : Int) : Calls Try.prog 23 #[v, .int .i64 lot] w (NilTwo w) := by
  go_enter Try.func23, Try.ntmps23
  go_wp2_with fail
  refine (none_yes v _ h).mono ?_
  rintro e w' ⟨rfl, rfl⟩
  go_wp2_with fail
  go_ret2
  exact ⟨rfl, Below.refl _ _⟩
theorem trace_none (h : NoStore w v) (id : Int) : Calls Try.prog 34 #[v, .int .i64 id] w (NilTwo w) := by
  go_enter Try.func34, Try.ntmps34
  go_wp2_with fail
  refine (none_yes v _ h).mono ?_
  rintro e w' ⟨rfl, rfl⟩
  go_wp2_with fail
  go_ret2
  exact ⟨rfl, Below.refl _ _⟩
theorem receive_none (h : NoStore w v) (a b c d e f g : Int) (A : Option Addr) (n k : Nat) : Calls Try.prog 35 #[v, .agg #[.int .i64 a, .int .i64 b, .int .i64 c, .int .i64 d, .int .i64 e, .int .i64 f, .int .i64 g, .slice A n k]] w (NilOne (.int .i64 2) w) := by
  go_enter Try.func35, Try.ntmps35
  go_wp2_with fail
  refine (none_yes v _ (h.alloc _)).mono ?_
  rintro e w' ⟨rfl, rfl⟩
  go_wp2_with fail
  go_ret
  exact ⟨rfl, (Below.refl _ _).alloc (Nat.le_refl _) _⟩
theorem use_none (h : NoStore w v) (a b : Int) : Calls Try.prog 36 #[v, .int .i64 a, .int .i64 b] w (NilOne (.int .i64 2) w) := by
  go_enter Try.func36, Try.ntmps36
  go_wp2_with fail
  refine (none_yes v _ h).mono ?_
  rintro e w' ⟨rfl, rfl⟩
  go_wp2_with fail
  go_ret
  exact ⟨rfl, Below.refl _ _⟩
theorem return_none (h : NoStore w v) (a : Int) : Calls Try.prog 28 #[v, .int .i64 a] w (NilOne (.int .i64 2) w) := by
  go_enter Try.func28, Try.ntmps28
  go_wp2_with fail
  refine (none_yes v _ h).mono ?_
  rintro e w' ⟨rfl, rfl⟩
  go_wp2_with fail
  go_ret
  exact ⟨rfl, Below.refl _ _⟩
theorem scrap_none (h : NoStore w v) (a : Int) : Calls Try.prog 37 #[v, .int .i64 a] w (NilOne (.int .i64 2) w) := by
  go_enter Try.func37, Try.ntmps37
  go_wp2_with fail
  refine (none_yes v _ h).mono ?_
  rintro e w' ⟨rfl, rfl⟩
  go_wp2_with fail
  go_ret
  exact ⟨rfl, Below.refl _ _⟩
theorem items_none (h : NoStore w v) : Calls Try.prog 26 #[v] w (NilOne (.slice none 0 0) w) := by
  go_enter Try.func26, Try.ntmps26
  go_wp2_with fail
  refine (none_yes v _ h).mono ?_
  rintro e w' ⟨rfl, rfl⟩
  go_wp2_with fail
  go_ret
  exact ⟨rfl, Below.refl _ _⟩
theorem pieces_none (h : NoStore w v) : Calls Try.prog 22 #[v] w (NilOne (.slice none 0 0) w) := by
  go_enter Try.func22, Try.ntmps22
  go_wp2_with fail
  refine (none_yes v _ h).mono ?_
  rintro e w' ⟨rfl, rfl⟩
  go_wp2_with fail
  go_ret
  exact ⟨rfl, Below.refl _ _⟩
theorem copy_none (h : NoStore w v) : Calls Try.prog 38 #[v] w (NilOne (.pointer none) w) := by
  go_enter Try.func38, Try.ntmps38
  go_wp2_with fail
  refine (none_yes v _ h).mono ?_
  rintro e w' ⟨rfl, rfl⟩
  go_wp2_with fail
  go_ret
  exact ⟨rfl, Below.refl _ _⟩
set_option maxRecDepth 100000 in
theorem balance_none (h : NoStore w v) : Calls Try.prog 27 #[v] w (NilOne (.agg #[.int .i64 0, .int .i64 0, .int .i64 0, .int .i64 0, .int .i64 0]) w) := by
  go_enter Try.func27, Try.ntmps27
  go_wp2_with fail
  refine (none_yes v _ (h.alloc _)).mono ?_
  rintro e w' ⟨rfl, rfl⟩
  have hbo := Blk.new w 57 #[.int .i64 0, .int .i64 0, .int .i64 0, .int .i64 0, .int .i64 0]
  have f0 := hbo.frozen 0
  have f1 := hbo.frozen 1
  have f2 := hbo.frozen 2
  have f3 := hbo.frozen 3
  have f4 := hbo.frozen 4
  have o0 := hbo.cell_ 0 rfl
  have o1 := hbo.cell_ 1 rfl
  have o2 := hbo.cell_ 2 rfl
  have o3 := hbo.cell_ 3 rfl
  have o4 := hbo.cell_ 4 rfl
  have hB := (Below.refl w.heap.size w).alloc (Nat.le_refl _) (.cells #[.int .i64 0, .int .i64 0, .int .i64 0, .int .i64 0, .int .i64 0] 57)
  generalize w.alloc (.cells #[.int .i64 0, .int .i64 0, .int .i64 0, .int .i64 0, .int .i64 0] 57) = W at *
  go_wp2
  have hf := ((((hbo.set_ 0 (.int .i64 0)).set_ 1 (.int .i64 0)).set_ 2 (.int .i64 0)).set_ 3 (.int .i64 0)).set_ 4 (.int .i64 0)
  have q0 := hf.cell_ 0 rfl
  have q1 := hf.cell_ 1 rfl
  have q2 := hf.cell_ 2 rfl
  have q3 := hf.cell_ 3 rfl
  have q4 := hf.cell_ 4 rfl
  clear o0 o1 o2 o3 o4 f0 f1 f2 f3 f4
  refine bodyPost_ret (v := .agg #[.int .i64 0, .int .i64 0, .int .i64 0, .int .i64 0, .int .i64 0]) (by simp [results, Try.results27, go_sem, q0, q1, q2, q3, q4]) rfl ⟨rfl, ?_⟩
  exact ((((hB.setCell (Nat.le_refl _) _).setCell (Nat.le_refl _) _).setCell (Nat.le_refl _) _).setCell (Nat.le_refl _) _).setCell (Nat.le_refl _) _
end
end Go.Proofs.Ytnejacogflkmmaa
