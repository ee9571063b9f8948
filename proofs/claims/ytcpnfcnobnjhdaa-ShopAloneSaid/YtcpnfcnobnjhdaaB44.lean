/- Parts of the proofs of this seat: Clone. Each part says what it proves; no condition beyond those stated there. -/
import Derived.WalkSpells
import Derived.Outline
import Derived.Test.YtcpnfcnobnjhdaaB8
import Derived.Test.YtcpnfcnobnjhdaaB23

/- slices.Clone of the lists of a shop. -/
namespace Go.Proofs.Ytcpnfcnobnjhdaa
open Go Go.RowKit
theorem et_ints : ElemT Try.prog 22 3 1 := elemT_mk Try.underlying22 (z := .int .i64 0) (bytes := 8) (by kernel_rfl) rfl (by omega) (by omega)
theorem et_steps : ElemT Try.prog 65 69 4 := elemT_mk Try.underlying65 (z := .agg #[.int .i64 0, .int .i64 0, .int .i64 0, .int .i64 0]) (bytes := 32) (by kernel_rfl) rfl (by omega) (by omega)
theorem intEnc_len (n : Int) : (intEnc n).length = 1 := rfl
theorem intEnc_one (n : Int) : ∀ u ∈ intEnc n, u.oneCell' = true := fun u hu => by simp [intEnc] at hu; subst hu; rfl
theorem stepEnc_len (x : Step) : x.enc.length = 4 := rfl
theorem stepEnc_one (x : Step) : ∀ u ∈ x.enc, u.oneCell' = true := fun u hu => by
  simp only [Step.enc, List.mem_cons, List.not_mem_nil, or_false] at hu
  rcases hu with rfl | rfl | rfl | rfl <;> rfl
def ClonePost {α : Type} (t : TypeId) (f : α → List Value) (sz : Nat) (l : List α) (w : World) (e : Ending) (w' : World) : Prop :=
  ∃ A' c', e = .returned (.slice A' l.length c') ∧ Below w.heap.size w w' ∧ Slc f sz w' w'.heap.size A' l ∧ (l ≠ [] → Own w' w.heap.size t sz f (.slice A' l.length c') l)
set_option maxRecDepth 100000 in
theorem cloneInt_any (A : Option Addr) (c : Nat) (l : List Int) (w : World) (hl : l.length ≤ 100000) (hS : Slc intEnc 1 w w.heap.size A l) :
    Calls Try.prog 70 #[.slice A l.length c] w (ClonePost 3 intEnc 1 l w) := by
  have q22 : ∀ (w : World) (a : Option Addr) (n c n' c' : Nat), (binOp .eql 22 (.slice a n c) (.slice none n' c')).run Try.prog w = .ok (.bool a.isNone) w := fun w a n c n' c' => Lib.run_eql_slice_nil w _ _ a n c n' c' Try.underlying22
  cases A with
  | none =>
    have hn : l = [] := by
      cases l with
      | nil => rfl
      | cons x r => obtain ⟨b, off, h, _⟩ := hS 0 x rfl; cases h
    subst hn
    go_enter Try.func70, Try.ntmps70
    go_wp2_with fail
    go_ret
    exact ⟨none, 0, rfl, Below.refl _ _, Slc.nil_, fun h => absurd rfl h⟩
  | some a =>
    have HS := hide hS
    have hsz : (w.alloc (.cells #[] 3)).heap.size = w.heap.size + 1 := by simp
    have HSZ := hide hsz
    have HB0 := hide ((Below.refl w.heap.size w).alloc (Nat.le_refl _) (.cells #[] 3))
    clear hS hsz
    go_enter Try.func70, Try.ntmps70
    go_wp2_with (at_builtin; refine wpList_app_full (xs := []) (ys := l) (B1 := 0) (B2 := w.heap.size) _ _ rfl rfl et_ints rfl rfl Slc.nil_ rfl (HS.out.below HB0.out) rfl (Nat.zero_le _) intEnc_len intEnc_one (by omega) ?_; intro A' c' W' hb hS' hc' hO')
    go_ret
    have hb2 := HB0.out.trans (hb.mono HB0.out.size)
    refine ⟨A', c', by simp, hb2, by simpa using hS', fun hne => ?_⟩
    have h := (hO' hne).mono_base (b' := w.heap.size) HB0.out.size
    simpa using h
set_option maxRecDepth 100000 in
theorem cloneStep_any (A : Option Addr) (c : Nat) (l : List Step) (w : World) (hl : l.length ≤ 100000) (hS : Slc Step.enc 4 w w.heap.size A l) :
    Calls Try.prog 71 #[.slice A l.length c] w (ClonePost 69 Step.enc 4 l w) := by
  have q22 : ∀ (w : World) (a : Option Addr) (n c n' c' : Nat), (binOp .eql 65 (.slice a n c) (.slice none n' c')).run Try.prog w = .ok (.bool a.isNone) w := fun w a n c n' c' => Lib.run_eql_slice_nil w _ _ a n c n' c' Try.underlying65
  cases A with
  | none =>
    have hn : l = [] := by
      cases l with
      | nil => rfl
      | cons x r => obtain ⟨b, off, h, _⟩ := hS 0 x rfl; cases h
    subst hn
    go_enter Try.func71, Try.ntmps71
    go_wp2_with fail
    go_ret
    exact ⟨none, 0, rfl, Below.refl _ _, Slc.nil_, fun h => absurd rfl h⟩
  | some a =>
    have HS := hide hS
    have hsz : (w.alloc (.cells #[] 69)).heap.size = w.heap.size + 1 := by simp
    have HSZ := hide hsz
    have HB0 := hide ((Below.refl w.heap.size w).alloc (Nat.le_refl _) (.cells #[] 69))
    clear hS hsz
    go_enter Try.func71, Try.ntmps71
    go_wp2_with (at_builtin; refine wpList_app_full (xs := []) (ys := l) (B1 := 0) (B2 := w.heap.size) _ _ rfl rfl et_steps rfl rfl Slc.nil_ rfl (HS.out.below HB0.out) rfl (Nat.zero_le _) stepEnc_len stepEnc_one (by omega) ?_; intro A' c' W' hb hS' hc' hO')
    go_ret
    have hb2 := HB0.out.trans (hb.mono HB0.out.size)
    refine ⟨A', c', by simp, hb2, by simpa using hS', fun hne => ?_⟩
    have h := (hO' hne).mono_base (b' := w.heap.size) HB0.out.size
    simpa using h
end Go.Proofs.Ytcpnfcnobnjhdaa
