/- All steps of a shop: the list of the specification. -/
import Derived.Test.YtcpnfcnobnjhdaaChain
import Derived.Test.YtcpnfcnobnjhdaaOwn
namespace Go.Proofs.Ytcpnfcnobnjhdaa
open Go.RowKit
/-- job and number of a step -/
def Ent.pair (e : Ent) : List Value := [.int .i64 e.j, .int .i64 e.k]
theorem et_pair : ElemT Try.prog 54 77 2 := elemT_mk Try.underlying54 (z := .agg #[.int .i64 0, .int .i64 0]) (bytes := 16) (by kernel_rfl) rfl (by omega) (by omega)
theorem stepsFrom_len {j : Nat} : ∀ {l : List Step} {k : Nat}, (stepsFrom j k l).length = l.length
  | [], _ => rfl
  | x :: r, k => by simp [stepsFrom, stepsFrom_len (l := r)]
theorem entsFrom_len {n : Nat} : ∀ {js : List (List Step)} {j : Nat}, (∀ l ∈ js, l.length ≤ n) → (entsFrom j js).length ≤ js.length * n
  | [], _, _ => by simp [entsFrom]
  | l :: r, j, h => by
    have h1 := h l (by simp)
    have h2 := entsFrom_len (n := n) (js := r) (j := j + 1) fun l hl => h l (by simp [hl])
    simp only [entsFrom, List.length_append, stepsFrom_len, List.length_cons, Nat.succ_mul]
    omega
theorem ents_len {p : Shop} (hv : VShop p) : (ents p).length ≤ 96 := by
  have h := entsFrom_len (n := 8) (js := p.jobs) (j := 0) fun l hl => by
    obtain ⟨i, hi⟩ := List.getElem?_of_mem hl
    exact (hv.steps i l hi).1
  have := hv.jobn
  unfold ents
  omega

set_option maxRecDepth 100000 in
theorem refList_any (s : Sh) (w : World) (hS : ShAt w w.heap.size s) (hv : VShop s.p) :
    Calls Try.prog 58 #[.agg #[.int .i64 s.p.op, .int .i64 s.p.cl, .slice s.aH s.p.hol.length s.cH, .int .i64 s.p.mach, .slice s.aS s.p.setup.length s.cS, .slice s.aJ s.p.jobs.length s.cJ]] w fun e w' => ∃ A c, e = .returned (.slice A (ents s.p).length c) ∧ Below w.heap.size w w' ∧ Slc Ent.pair 2 w' w'.heap.size A (ents s.p) := by
  have hjn := hv.jobn
  have hen := ents_len hv
  have hk := Blk.new w 25 #[.int .i64 s.p.op, .int .i64 s.p.cl, .slice s.aH s.p.hol.length s.cH, .int .i64 s.p.mach, .slice s.aS s.p.setup.length s.cS, .slice s.aJ s.p.jobs.length s.cJ]
  have hB := (Below.refl w.heap.size w).alloc (Nat.le_refl _) (.cells #[.int .i64 s.p.op, .int .i64 s.p.cl, .slice s.aH s.p.hol.length s.cH, .int .i64 s.p.mach, .slice s.aS s.p.setup.length s.cS, .slice s.aJ s.p.jobs.length s.cJ] 25)
  have hz : w.heap.size + 1 ≤ (w.alloc (.cells #[.int .i64 s.p.op, .int .i64 s.p.cl, .slice s.aH s.p.hol.length s.cH, .int .i64 s.p.mach, .slice s.aS s.p.setup.length s.cS, .slice s.aJ s.p.jobs.length s.cJ] 25)).heap.size := by simp
  go_enter Try.func58, Try.ntmps58
  go_wp2_with fail
  generalize w.alloc (.cells #[.int .i64 s.p.op, .int .i64 s.p.cl, .slice s.aH s.p.hol.length s.cH, .int .i64 s.p.mach, .slice s.aS s.p.setup.length s.cS, .slice s.aJ s.p.jobs.length s.cJ] 25) = W at *
  have hO : Own W (w.heap.size + 1) 77 2 Ent.pair (.slice none 0 0) [] := Own.nil_
  go_loopw [3, 4] (fun v y W => ∃ (j : Nat) (es : List Ent), y = .int .i64 j ∧ j ≤ s.p.jobs.length ∧ es ++ entsFrom j (s.p.jobs.drop j) = ents s.p ∧ Blk W w.heap.size 25 #[.int .i64 s.p.op, .int .i64 s.p.cl, .slice s.aH s.p.hol.length s.cH, .int .i64 s.p.mach, .slice s.aS s.p.setup.length s.cS, .slice s.aJ s.p.jobs.length s.cJ] ∧ Own W (w.heap.size + 1) 77 2 Ent.pair v es ∧ w.heap.size + 1 ≤ W.heap.size ∧ Below w.heap.size w W) (fun v y _ => s.p.jobs.length - (intOf y).toNat)
  case atStart => exact ⟨0, [], rfl, Nat.zero_le _, rfl, hk, hO, hz, hB⟩
  case round =>
    obtain ⟨W, rfl⟩ : ∃ W : World, W = wr := ⟨_, rfl⟩
    obtain ⟨j, es, rfl, hj, hes, hk, hO, hz, hB⟩ := hrel
    have c5 := hk.cell_ 5 rfl
    by_cases hlt : j < s.p.jobs.length
    · obtain ⟨l, hjl⟩ : ∃ l, s.p.jobs[j]? = some l := ⟨_, List.getElem?_eq_getElem hlt⟩
      have hll := (hv.steps j l hjl).1
      obtain ⟨b, off, A', c', hA, hb0, hc, _⟩ := job_at hS.jobs hjl
      have HES := hide (show es ++ (stepsFrom j 0 (l.drop 0) ++ entsFrom (j + 1) (s.p.jobs.drop (j + 1))) = ents s.p by rw [← hes, entsFrom_drop hjl]; rfl)
      clear hes hjl
      have hcw := (hB.cell (p := ⟨b, off + j, none⟩) hb0).trans hc
      obtain ⟨p, aH, cH, aS, cS, aJ, cJ⟩ := s
      dsimp only at *
      subst hA
      go_wp2_with fail
      clear hcw
      clear c5
      go_loopw [3, 5] (fun v z W => ∃ (k : Nat) (es : List Ent), z = .int .i64 k ∧ k ≤ l.length ∧ es ++ (stepsFrom j k (l.drop k) ++ entsFrom (j + 1) (p.jobs.drop (j + 1))) = ents p ∧ Blk W w.heap.size 25 #[.int .i64 p.op, .int .i64 p.cl, .slice aH p.hol.length cH, .int .i64 p.mach, .slice aS p.setup.length cS, .slice (some ⟨b, off, none⟩) p.jobs.length cJ] ∧ Own W (w.heap.size + 1) 77 2 Ent.pair v es ∧ w.heap.size + 1 ≤ W.heap.size ∧ Below w.heap.size w W) (fun v z _ => l.length - (intOf z).toNat)
      case atStart => exact ⟨0, es, rfl, Nat.zero_le _, HES.out, hk, hO, hz, hB⟩
      case round =>
        clear HES
        clear hk hO hz hB
        obtain ⟨W, rfl⟩ : ∃ W : World, W = wr := ⟨_, rfl⟩
        obtain ⟨k, es, rfl, hk2, hes, hk, hO, hz, hB⟩ := hrel
        have c5 := hk.cell_ 5 rfl
        have hcw := (hB.cell (p := ⟨b, off + j, none⟩) hb0).trans hc
        by_cases hlk : k < l.length
        · obtain ⟨x, hx⟩ : ∃ x, l[k]? = some x := ⟨_, List.getElem?_eq_getElem hlk⟩
          have HES := hide (show (es ++ [⟨j, k, x⟩]) ++ (stepsFrom j (k + 1) (l.drop (k + 1)) ++ entsFrom (j + 1) (p.jobs.drop (j + 1))) = ents p by rw [← hes, stepsFrom_drop hx]; simp)
          have hel : es.length + 1 ≤ 96 := by
            have := congrArg List.length HES.out
            simp at this; omega
          clear hes hx
          go_wp2_with (at_builtin; refine wpList_app _ _ rfl rfl et_pair hO rfl rfl (y := (⟨j, k, x⟩ : Ent)) rfl rfl rfl (by omega) (by omega) ?_; intro v' W hO' hb hgt; clear c5; replace hk := hk.below hb (by omega); clear hO; have hO := hO'; clear hO'; replace hz := Nat.le_trans hz hb.size; replace hB := hB.trans (hb.mono (by omega)); clear hb; have c5 := hk.cell_ 5 rfl)
          go_roundw
          case rel => exact ⟨k + 1, _, by go_num, by omega, HES.out, hk, hO, hz, hB⟩
          case measure => simp [intOf]; omega
        · obtain rfl : k = l.length := by omega
          have HES := hide (show es ++ entsFrom (j + 1) (p.jobs.drop (j + 1)) = ents p by rw [← hes, nomore]; rfl)
          clear hes
          go_wp2_with fail
          go_roundw
          case rel => exact ⟨j + 1, es, by go_num, by omega, HES.out, hk, hO, hz, hB⟩
          case measure => simp [intOf]; omega
    · obtain rfl : j = s.p.jobs.length := by omega
      obtain rfl : es = ents s.p := by rw [← hes, nomore]; simp [entsFrom]
      clear hes
      obtain ⟨A, c, rfl, hSl⟩ := hO.form fun _ => rfl
      go_wp2_with fail
      go_ret
      exact ⟨A, c, rfl, hB, hSl⟩
end Go.Proofs.Ytcpnfcnobnjhdaa
