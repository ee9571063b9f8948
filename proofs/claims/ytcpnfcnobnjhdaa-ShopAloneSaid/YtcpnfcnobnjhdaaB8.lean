/- Parts of the proofs of this seat: List, Load, PlanP, Chains, Plan, Judge, Wide, SamePlan. Each part says what it proves; no condition beyond those stated there. -/
import Derived.Test.YtcpnfcnobnjhdaaB5
import Derived.Test.YtcpnfcnobnjhdaaB7

/- All steps of a shop: the list of the specification. -/
namespace Go.Proofs.Ytcpnfcnobnjhdaa
open Go.RowKit
/-- job and number of a step -/
def Ent.pair (e : Ent) : List Value := [.int .i64 e.j, .int .i64 e.k]
theorem et_pair : ElemT Try.prog 54 77 2 := elemT_mk Try.underlying54 (z := .agg #[.int .i64 0, .int .i64 0]) (bytes := 16) (by kernel_rfl) rfl (by omega) (by omega)
theorem stepsFrom_len {j : Nat} : ∀ {l : List Step} {k : Nat}, (stepsFrom j k l).length = l.length
  | [], _ => rfl
  | x :: r, k => by simp [stepsFrom, stepsFrom_len (l := r)]
theorem entsFrom_len {n : Nat} : ∀ {js : List (List Step)} {j : Nat}, (∀ l ∈ js, l.length ≤ n) → (entsFrom j js).length ≤ js.length * n
  | [], _, _ => by simp [entsFrom]
  | l :: r, j, h => by
    have h1 := h l (by simp)
    have h2 := entsFrom_len (n := n) (js := r) (j := j + 1) fun l hl => h l (by simp [hl])
    simp only [entsFrom, List.length_append, stepsFrom_len, List.length_cons, Nat.succ_mul]
    omega
theorem ents_len {p : Shop} (hv : VShop p) : (ents p).length ≤ 96 := by
  have h := entsFrom_len (n := 8) (js := p.jobs) (j := 0) fun l hl => by
    obtain ⟨i, hi⟩ := List.getElem?_of_mem hl
    exact (hv.steps i l hi).1
  have := hv.jobn
  unfold ents
  omega

set_option maxRecDepth 100000 in
theorem refList_any (s : Sh) (w : World) (hS : ShAt w w.heap.size s) (hv : VShop s.p) :
    Calls Try.prog 58 #[.agg #[.int .i64 s.p.op, .int .i64 s.p.cl, .slice s.aH s.p.hol.length s.cH, .int .i64 s.p.mach, .slice s.aS s.p.setup.length s.cS, .slice s.aJ s.p.jobs.length s.cJ]] w fun e w' => ∃ A c, e = .returned (.slice A (ents s.p).length c) ∧ Below w.heap.size w w' ∧ Slc Ent.pair 2 w' w'.heap.size A (ents s.p) := by
  have hjn := hv.jobn
  have hen := ents_len hv
  have hk := Blk.new w 25 #[.int .i64 s.p.op, .int .i64 s.p.cl, .slice s.aH s.p.hol.length s.cH, .int .i64 s.p.mach, .slice s.aS s.p.setup.length s.cS, .slice s.aJ s.p.jobs.length s.cJ]
  have hB := (Below.refl w.heap.size w).alloc (Nat.le_refl _) (.cells #[.int .i64 s.p.op, .int .i64 s.p.cl, .slice s.aH s.p.hol.length s.cH, .int .i64 s.p.mach, .slice s.aS s.p.setup.length s.cS, .slice s.aJ s.p.jobs.length s.cJ] 25)
  have hz : w.heap.size + 1 ≤ (w.alloc (.cells #[.int .i64 s.p.op, .int .i64 s.p.cl, .slice s.aH s.p.hol.length s.cH, .int .i64 s.p.mach, .slice s.aS s.p.setup.length s.cS, .slice s.aJ s.p.jobs.length s.cJ] 25)).heap.size := by simp
  go_enter Try.func58, Try.ntmps58
  go_wp2_with fail
  generalize w.alloc (.cells #[.int .i64 s.p.op, .int .i64 s.p.cl, .slice s.aH s.p.hol.length s.cH, .int .i64 s.p.mach, .slice s.aS s.p.setup.length s.cS, .slice s.aJ s.p.jobs.length s.cJ] 25) = W at *
  have hO : Own W (w.heap.size + 1) 77 2 Ent.pair (.slice none 0 0) [] := Own.nil_
  go_loopw [3, 4] (fun v y W => ∃ (j : Nat) (es : List Ent), y = .int .i64 j ∧ j ≤ s.p.jobs.length ∧ es ++ entsFrom j (s.p.jobs.drop j) = ents s.p ∧ Blk W w.heap.size 25 #[.int .i64 s.p.op, .int .i64 s.p.cl, .slice s.aH s.p.hol.length s.cH, .int .i64 s.p.mach, .slice s.aS s.p.setup.length s.cS, .slice s.aJ s.p.jobs.length s.cJ] ∧ Own W (w.heap.size + 1) 77 2 Ent.pair v es ∧ w.heap.size + 1 ≤ W.heap.size ∧ Below w.heap.size w W) (fun v y _ => s.p.jobs.length - (intOf y).toNat)
  case atStart => exact ⟨0, [], rfl, Nat.zero_le _, rfl, hk, hO, hz, hB⟩
  case round =>
    obtain ⟨W, rfl⟩ : ∃ W : World, W = wr := ⟨_, rfl⟩
    obtain ⟨j, es, rfl, hj, hes, hk, hO, hz, hB⟩ := hrel
    have c5 := hk.cell_ 5 rfl
    by_cases hlt : j < s.p.jobs.length
    · obtain ⟨l, hjl⟩ : ∃ l, s.p.jobs[j]? = some l := ⟨_, List.getElem?_eq_getElem hlt⟩
      have hll := (hv.steps j l hjl).1
      obtain ⟨b, off, A', c', hA, hb0, hc, _⟩ := job_at hS.jobs hjl
      have HES := hide (show es ++ (stepsFrom j 0 (l.drop 0) ++ entsFrom (j + 1) (s.p.jobs.drop (j + 1))) = ents s.p by rw [← hes, entsFrom_drop hjl]; rfl)
      clear hes hjl
      have hcw := (hB.cell (p := ⟨b, off + j, none⟩) hb0).trans hc
      obtain ⟨p, aH, cH, aS, cS, aJ, cJ⟩ := s
      dsimp only at *
      subst hA
      go_wp2_with fail
      clear hcw
      clear c5
      go_loopw [3, 5] (fun v z W => ∃ (k : Nat) (es : List Ent), z = .int .i64 k ∧ k ≤ l.length ∧ es ++ (stepsFrom j k (l.drop k) ++ entsFrom (j + 1) (p.jobs.drop (j + 1))) = ents p ∧ Blk W w.heap.size 25 #[.int .i64 p.op, .int .i64 p.cl, .slice aH p.hol.length cH, .int .i64 p.mach, .slice aS p.setup.length cS, .slice (some ⟨b, off, none⟩) p.jobs.length cJ] ∧ Own W (w.heap.size + 1) 77 2 Ent.pair v es ∧ w.heap.size + 1 ≤ W.heap.size ∧ Below w.heap.size w W) (fun v z _ => l.length - (intOf z).toNat)
      case atStart => exact ⟨0, es, rfl, Nat.zero_le _, HES.out, hk, hO, hz, hB⟩
      case round =>
        clear HES
        clear hk hO hz hB
        obtain ⟨W, rfl⟩ : ∃ W : World, W = wr := ⟨_, rfl⟩
        obtain ⟨k, es, rfl, hk2, hes, hk, hO, hz, hB⟩ := hrel
        have c5 := hk.cell_ 5 rfl
        have hcw := (hB.cell (p := ⟨b, off + j, none⟩) hb0).trans hc
        by_cases hlk : k < l.length
        · obtain ⟨x, hx⟩ : ∃ x, l[k]? = some x := ⟨_, List.getElem?_eq_getElem hlk⟩
          have HES := hide (show (es ++ [⟨j, k, x⟩]) ++ (stepsFrom j (k + 1) (l.drop (k + 1)) ++ entsFrom (j + 1) (p.jobs.drop (j + 1))) = ents p by rw [← hes, stepsFrom_drop hx]; simp)
          have hel : es.length + 1 ≤ 96 := by
            have := congrArg List.length HES.out
            simp at this; omega
          clear hes hx
          go_wp2_with (at_builtin; refine wpList_app _ _ rfl rfl et_pair hO rfl rfl (y := (⟨j, k, x⟩ : Ent)) rfl rfl rfl (by omega) (by omega) ?_; intro v' W hO' hb hgt; clear c5; replace hk := hk.below hb (by omega); clear hO; have hO := hO'; clear hO'; replace hz := Nat.le_trans hz hb.size; replace hB := hB.trans (hb.mono (by omega)); clear hb; have c5 := hk.cell_ 5 rfl)
          go_roundw
          case rel => exact ⟨k + 1, _, by go_num, by omega, HES.out, hk, hO, hz, hB⟩
          case measure => simp [intOf]; omega
        · obtain rfl : k = l.length := by omega
          have HES := hide (show es ++ entsFrom (j + 1) (p.jobs.drop (j + 1)) = ents p by rw [← hes, nomore]; rfl)
          clear hes
          go_wp2_with fail
          go_roundw
          case rel => exact ⟨j + 1, es, by go_num, by omega, HES.out, hk, hO, hz, hB⟩
          case measure => simp [intOf]; omega
    · obtain rfl : j = s.p.jobs.length := by omega
      obtain rfl : es = ents s.p := by rw [← hes, nomore]; simp [entsFrom]
      clear hes
      obtain ⟨A, c, rfl, hSl⟩ := hO.form fun _ => rfl
      go_wp2_with fail
      go_ret
      exact ⟨A, c, rfl, hB, hSl⟩
end Go.Proofs.Ytcpnfcnobnjhdaa

/- Loads and bounds: the walks. -/
namespace Go.Proofs.Ytcpnfcnobnjhdaa
open Go.RowKit
theorem sumM_nonneg (m : Int) : ∀ {l : List Ent}, (∀ e ∈ l, 0 ≤ e.x.mi ∧ e.x.mi ≤ 1440) → 0 ≤ sumM m l ∧ sumM m l ≤ l.length * 1440
  | [], _ => by simp [sumM]
  | e :: r, h => by
    have h1 := h e (by simp)
    have h2 := sumM_nonneg m (l := r) fun e he => h e (by simp [he])
    simp only [sumM, List.length_cons]
    split <;> omega
theorem ents_step {p : Shop} (hv : VShop p) {e : Ent} (h : e ∈ ents p) : 0 ≤ e.x.m ∧ e.x.m < p.mach ∧ 1 ≤ e.x.mi ∧ e.x.mi ≤ p.cl - p.op ∧ 0 ≤ e.x.c ∧ e.x.c ≤ 9 ∧ 0 ≤ e.x.d ∧ e.x.d ≤ 10000 := by
  obtain ⟨l, h1, h2⟩ := ents_mem h
  have h := (hv.steps e.j l h1).2 e.k e.x h2
  omega
theorem sumM_bd {p : Shop} (hv : VShop p) (m : Int) {es r : List Ent} (h : es ++ r = ents p) : 0 ≤ sumM m es ∧ sumM m es ≤ 138240 := by
  have v1 := hv.op0
  have v3 := hv.cl
  have h1 := sumM_nonneg m (l := es) fun e he => by
    have := ents_step hv (e := e) (by rw [← h]; simp [he])
    omega
  have h2 := ents_len hv
  have h3 : es.length ≤ 96 := by
    have := congrArg List.length h
    simp at this; omega
  omega
theorem sumM_snoc (m : Int) (es : List Ent) (e : Ent) : sumM m (es ++ [e]) = sumM m es + if e.x.m = m then e.x.mi else 0 := by
  rw [sumM_append]; simp [sumM]

set_option maxRecDepth 100000 in
theorem load_any (s : Sh) (m : Int) (w : World) (hS : ShAt w w.heap.size s) (hv : VShop s.p) :
    Calls Try.prog 57 #[.agg #[.int .i64 s.p.op, .int .i64 s.p.cl, .slice s.aH s.p.hol.length s.cH, .int .i64 s.p.mach, .slice s.aS s.p.setup.length s.cS, .slice s.aJ s.p.jobs.length s.cJ], .int .i64 m] w fun e w' => e = .returned (.int .i64 (loadF s.p m)) ∧ Below w.heap.size w w' := by
  have hjn := hv.jobn
  have hsb := hide (fun (es r : List Ent) (h : es ++ r = ents s.p) => sumM_bd hv m h)
  have hk := Blk.new w 25 #[.int .i64 s.p.op, .int .i64 s.p.cl, .slice s.aH s.p.hol.length s.cH, .int .i64 s.p.mach, .slice s.aS s.p.setup.length s.cS, .slice s.aJ s.p.jobs.length s.cJ]
  have hB := (Below.refl w.heap.size w).alloc (Nat.le_refl _) (.cells #[.int .i64 s.p.op, .int .i64 s.p.cl, .slice s.aH s.p.hol.length s.cH, .int .i64 s.p.mach, .slice s.aS s.p.setup.length s.cS, .slice s.aJ s.p.jobs.length s.cJ] 25)
  obtain ⟨p, aH, cH, aS, cS, aJ, cJ⟩ := s
  dsimp only at *
  go_enter Try.func57, Try.ntmps57
  go_wp2_with fail
  generalize w.alloc (.cells #[.int .i64 p.op, .int .i64 p.cl, .slice aH p.hol.length cH, .int .i64 p.mach, .slice aS p.setup.length cS, .slice aJ p.jobs.length cJ] 25) = W at *
  go_loopw [5, 13] (fun x y W => ∃ (j : Nat) (es : List Ent), x = .int .i64 (sumM m es) ∧ y = .int .i64 j ∧ j ≤ p.jobs.length ∧ es ++ entsFrom j (p.jobs.drop j) = ents p ∧ Blk W w.heap.size 25 #[.int .i64 p.op, .int .i64 p.cl, .slice aH p.hol.length cH, .int .i64 p.mach, .slice aS p.setup.length cS, .slice aJ p.jobs.length cJ] ∧ Below w.heap.size w W) (fun x y _ => p.jobs.length - (intOf y).toNat)
  case atStart => exact ⟨0, [], rfl, rfl, Nat.zero_le _, rfl, hk, hB⟩
  case round =>
    clear hk hB
    obtain ⟨W, rfl⟩ : ∃ W : World, W = wr := ⟨_, rfl⟩
    obtain ⟨j, es, rfl, rfl, hj, hes, hk, hB⟩ := hrel
    by_cases hlt : j < p.jobs.length
    · obtain ⟨l, b, off, A', c', hjl, hA, hb0, hc, hSl⟩ := jobs_at hS.jobs hlt
      have hll := (hv.steps j l hjl).1
      have HES := hide (show es ++ (stepsFrom j 0 (l.drop 0) ++ entsFrom (j + 1) (p.jobs.drop (j + 1))) = ents p by rw [← hes, entsFrom_drop hjl]; rfl)
      clear hes hjl
      have hcw := (hB.cell (p := ⟨b, off + j, none⟩) hb0).trans hc
      dsimp only at hA
      subst hA
      have hB' := hB.alloc hB.size (.cells #[.slice A' l.length c'] 67)
      have hk' := hk.alloc (.cells #[.slice A' l.length c'] 67)
      clear hk hB
      go_wp2_with fail
      clear hcw
      generalize W.alloc (.cells #[.slice A' l.length c'] 67) = W2 at *
      obtain ⟨hk, hB⟩ : _ ∧ _ := ⟨hk', hB'⟩
      clear hk' hB'
      go_loopw [5, 20] (fun x z W => ∃ (k : Nat) (es : List Ent), x = .int .i64 (sumM m es) ∧ z = .int .i64 k ∧ k ≤ l.length ∧ es ++ (stepsFrom j k (l.drop k) ++ entsFrom (j + 1) (p.jobs.drop (j + 1))) = ents p ∧ Blk W w.heap.size 25 #[.int .i64 p.op, .int .i64 p.cl, .slice aH p.hol.length cH, .int .i64 p.mach, .slice aS p.setup.length cS, .slice (some ⟨b, off, none⟩) p.jobs.length cJ] ∧ Below w.heap.size w W) (fun x z _ => l.length - (intOf z).toNat)
      case atStart => exact ⟨0, es, rfl, rfl, Nat.zero_le _, HES.out, hk, hB⟩
      case round =>
        clear HES
        clear hk hB
        obtain ⟨W, rfl⟩ : ∃ W : World, W = wr := ⟨_, rfl⟩
        obtain ⟨k, es, rfl, rfl, hk2, hes, hk, hB⟩ := hrel
        have hs1 := hsb.out _ _ hes
        by_cases hlk : k < l.length
        · obtain ⟨x, b2, off2, hx, hA2, hb2, d0, d1, d2, d3⟩ := steps_at (hSl.below hB) hlk
          have hes' : (es ++ [⟨j, k, x⟩]) ++ (stepsFrom j (k + 1) (l.drop (k + 1)) ++ entsFrom (j + 1) (p.jobs.drop (j + 1))) = ents p := by rw [← hes, stepsFrom_drop hx]; simp
          have hs2 := hsb.out _ _ hes'
          have HES := hide hes'
          have HSN := hide (sumM_snoc m es ⟨j, k, x⟩)
          have hxm := ents_step hv (e := ⟨j, k, x⟩) (by rw [← hes']; simp)
          dsimp only at hxm
          have v1 := hv.op0
          have v3 := hv.cl
          subst hA2
          replace hB := hB.alloc hB.size (.cells #[.int .i64 x.m, .int .i64 x.mi, .int .i64 x.c, .int .i64 x.d] 69)
          replace hk := hk.alloc (.cells #[.int .i64 x.m, .int .i64 x.mi, .int .i64 x.c, .int .i64 x.d] 69)
          clear hes hes' hx
          by_cases hm : x.m = m
          · have HM := hide hm
            have hmb : (x.m == m) = true := by simpa using hm
            clear hm
            go_wp2_with fail
            go_roundw
            case rel => exact ⟨k + 1, _, by rw [HSN.out, if_pos HM.out], by go_num, by omega, HES.out, hk, hB⟩
            case measure => simp [intOf]; omega
          · have HM := hide hm
            have hmb : (x.m == m) = false := by simpa using hm
            clear hm
            go_wp2_with fail
            go_roundw
            case rel => exact ⟨k + 1, _, by rw [HSN.out, if_neg HM.out]; go_num, by go_num, by omega, HES.out, hk, hB⟩
            case measure => simp [intOf]; omega
        · obtain rfl : k = l.length := by omega
          have HES := hide (show es ++ entsFrom (j + 1) (p.jobs.drop (j + 1)) = ents p by rw [← hes, nomore]; rfl)
          clear hes
          go_wp2_with fail
          go_roundw
          case rel => exact ⟨j + 1, es, rfl, by go_num, by omega, HES.out, hk, hB⟩
          case measure => simp [intOf]; omega
    · obtain rfl : j = p.jobs.length := by omega
      obtain rfl : es = ents p := by rw [← hes, nomore]; simp [entsFrom]
      have hs1 := hsb.out (ents p) [] (by simp)
      clear hes
      have c0 := hk.cell_ 0 rfl
      have c1 := hk.cell_ 1 rfl
      have c2 := hk.cell_ 2 rfl
      have c3 := hk.cell_ 3 rfl
      have c4 := hk.cell_ 4 rfl
      have c5 := hk.cell_ 5 rfl
      go_wp2_with fail
      refine (after_any ⟨p, aH, cH, aS, cS, aJ, cJ⟩ 0 (sumM m (ents p)) _ (hS.on hB) hv (by omega) (by omega) (by omega) (by omega)).mono ?_
      rintro e W ⟨rfl, hb⟩
      clear c0 c1 c2 c3 c4 c5
      replace hk := hk.below hb hk.lt
      replace hB := hB.trans (hb.mono hB.size)
      clear hb
      have c0 := hk.cell_ 0 rfl
      have c1 := hk.cell_ 1 rfl
      have c2 := hk.cell_ 2 rfl
      have c3 := hk.cell_ 3 rfl
      have c4 := hk.cell_ 4 rfl
      have c5 := hk.cell_ 5 rfl
      go_wp2_with fail
      go_ret
      exact ⟨rfl, hB⟩

theorem fstep0 (a b c d : Value) (w : World) : (Instr.field 69 (.agg #[a, b, c, d]) 0).run Try.prog w = .ok a w := by kernel_rfl
theorem fstep1 (a b c d : Value) (w : World) : (Instr.field 69 (.agg #[a, b, c, d]) 1).run Try.prog w = .ok b w := by kernel_rfl
theorem fstep2 (a b c d : Value) (w : World) : (Instr.field 69 (.agg #[a, b, c, d]) 2).run Try.prog w = .ok c w := by kernel_rfl
theorem fstep3 (a b c d : Value) (w : World) : (Instr.field 69 (.agg #[a, b, c, d]) 3).run Try.prog w = .ok d w := by kernel_rfl
theorem step_at {w : World} {B : Nat} {A : Option Addr} {xs : List Step} {k : Nat} {x : Step} (h : Slc Step.enc 4 w B A xs) (hx : xs[k]? = some x) :
    ∃ b off, A = some ⟨b, off, none⟩ ∧ b < B ∧ w.cell? ⟨b, off + k * 4, none⟩ = some (.int .i64 x.m) ∧ w.cell? ⟨b, off + k * 4 + 1, none⟩ = some (.int .i64 x.mi) ∧ w.cell? ⟨b, off + k * 4 + 2, none⟩ = some (.int .i64 x.c) ∧ w.cell? ⟨b, off + k * 4 + 3, none⟩ = some (.int .i64 x.d) := by
  obtain ⟨b, off, ha, hb, hc⟩ := h k _ hx
  exact ⟨b, off, ha, hb, by simpa using hc 0 _ rfl, hc 1 _ rfl, hc 2 _ rfl, hc 3 _ rfl⟩
theorem at_any (s : Sh) (j k : Nat) (l : List Step) (x : Step) (w : World) (hS : ShAt w w.heap.size s) (hj : s.p.jobs[j]? = some l) (hx : l[k]? = some x) :
    Calls Try.prog 59 #[.agg #[.int .i64 s.p.op, .int .i64 s.p.cl, .slice s.aH s.p.hol.length s.cH, .int .i64 s.p.mach, .slice s.aS s.p.setup.length s.cS, .slice s.aJ s.p.jobs.length s.cJ], .agg #[.int .i64 j, .int .i64 k]] w fun e w' => e = .returned (.agg #[.int .i64 x.m, .int .i64 x.mi, .int .i64 x.c, .int .i64 x.d]) ∧ Below w.heap.size w w' := by
  obtain ⟨b, off, A', c', hA, hb0, hc, hSl⟩ := job_at hS.jobs hj
  have hkl : k < l.length := (List.getElem?_eq_some_iff.1 hx).1
  have hjl : j < s.p.jobs.length := (List.getElem?_eq_some_iff.1 hj).1
  obtain ⟨b2, off2, hA2, hb2, d0, d1, d2, d3⟩ := step_at hSl hx
  obtain ⟨p, aH, cH, aS, cS, aJ, cJ⟩ := s
  dsimp only at *
  subst hA hA2
  have hk := Blk.new w 25 #[.int .i64 p.op, .int .i64 p.cl, .slice aH p.hol.length cH, .int .i64 p.mach, .slice aS p.setup.length cS, .slice (some ⟨b, off, none⟩) p.jobs.length cJ]
  have hB := (Below.refl w.heap.size w).alloc (Nat.le_refl _) (.cells #[.int .i64 p.op, .int .i64 p.cl, .slice aH p.hol.length cH, .int .i64 p.mach, .slice aS p.setup.length cS, .slice (some ⟨b, off, none⟩) p.jobs.length cJ] 25)
  have hz : w.heap.size < (w.alloc (.cells #[.int .i64 p.op, .int .i64 p.cl, .slice aH p.hol.length cH, .int .i64 p.mach, .slice aS p.setup.length cS, .slice (some ⟨b, off, none⟩) p.jobs.length cJ] 25)).heap.size := by simp
  have hz1 : (w.alloc (.cells #[.int .i64 p.op, .int .i64 p.cl, .slice aH p.hol.length cH, .int .i64 p.mach, .slice aS p.setup.length cS, .slice (some ⟨b, off, none⟩) p.jobs.length cJ] 25)).heap.size = w.heap.size + 1 := by simp
  go_enter Try.func59, Try.ntmps59
  go_wp2_with fail
  generalize w.alloc (.cells #[.int .i64 p.op, .int .i64 p.cl, .slice aH p.hol.length cH, .int .i64 p.mach, .slice aS p.setup.length cS, .slice (some ⟨b, off, none⟩) p.jobs.length cJ] 25) = W at *
  have hp := Blk.new W 77 #[.int .i64 j, .int .i64 k]
  have hr := Blk.new (W.alloc (.cells #[.int .i64 j, .int .i64 k] 77)) 69 #[.int .i64 0, .int .i64 0, .int .i64 0, .int .i64 0]
  rw [hz1] at hp
  rw [show (W.alloc (.cells #[.int .i64 j, .int .i64 k] 77)).heap.size = w.heap.size + 2 by simp [hz1]] at hr
  replace hp := hp.alloc (.cells #[.int .i64 0, .int .i64 0, .int .i64 0, .int .i64 0] 69)
  replace hk := (hk.alloc (.cells #[.int .i64 j, .int .i64 k] 77)).alloc (.cells #[.int .i64 0, .int .i64 0, .int .i64 0, .int .i64 0] 69)
  replace hB := (hB.alloc hB.size (.cells #[.int .i64 j, .int .i64 k] 77)).alloc (by simp; omega) (.cells #[.int .i64 0, .int .i64 0, .int .i64 0, .int .i64 0] 69)
  generalize (W.alloc (.cells #[.int .i64 j, .int .i64 k] 77)).alloc (.cells #[.int .i64 0, .int .i64 0, .int .i64 0, .int .i64 0] 69) = W at *
  replace hc := (hB.cell (p := ⟨b, off + j, none⟩) hb0).trans hc
  replace d0 := (hB.cell (p := ⟨b2, off2 + k * 4, none⟩) hb2).trans d0
  replace d1 := (hB.cell (p := ⟨b2, off2 + k * 4 + 1, none⟩) hb2).trans d1
  replace d2 := (hB.cell (p := ⟨b2, off2 + k * 4 + 2, none⟩) hb2).trans d2
  replace d3 := (hB.cell (p := ⟨b2, off2 + k * 4 + 3, none⟩) hb2).trans d3
  go_wp2_with fail
  have c5 := hk.cell_ 5 rfl
  have p0 := hp.cell_ 0 rfl
  have p1 := hp.cell_ 1 rfl
  have r0 := hr.cell_ 0 rfl
  have r1 := hr.cell_ 1 rfl
  have r2 := hr.cell_ 2 rfl
  have r3 := hr.cell_ 3 rfl
  refine wp_region_quiet_tail (C := fun w' => ∃ u : Since W, w' = u.w) 11 (by kernel_rfl) (by kernel_rfl) (Since.start W) ?_
  simp only [List.take_succ_cons, List.take_zero, List.drop_succ_cons, List.drop_zero]
  have y_c5 := Since.cell c5
  have y_p0 := Since.cell p0
  have y_p1 := Since.cell p1
  have y_r0 := Since.cell r0
  have y_r1 := Since.cell r1
  have y_r2 := Since.cell r2
  have y_r3 := Since.cell r3
  have y_hc := Since.cell hc
  have y_d0 := Since.cell d0
  have y_d1 := Since.cell d1
  have y_d2 := Since.cell d2
  have y_d3 := Since.cell d3
  clear c5 p0 p1 r0 r1 r2 r3
  repeat (go_big_quiet_step ((fail)))
  refine wpQuiet_nil ?_
  rintro W ⟨⟨_, hb⟩, rfl⟩
  try dsimp only at hb ⊢
  replace hc : W.cell? _ = _ := y_hc ⟨W, hb⟩
  replace d0 : W.cell? _ = _ := y_d0 ⟨W, hb⟩
  replace d1 : W.cell? _ = _ := y_d1 ⟨W, hb⟩
  replace d2 : W.cell? _ = _ := y_d2 ⟨W, hb⟩
  replace d3 : W.cell? _ = _ := y_d3 ⟨W, hb⟩
  clear y_c5 y_p0 y_p1 y_r0 y_r1 y_r2 y_r3 y_hc y_d0 y_d1 y_d2 y_d3
  replace hk := hk.below hb hk.lt
  replace hp := hp.below hb hp.lt
  replace hr := hr.below hb hr.lt
  replace hB := hB.trans (hb.mono hB.size)
  clear hb
  have c5 := hk.cell_ 5 rfl
  have p0 := hp.cell_ 0 rfl
  have p1 := hp.cell_ 1 rfl
  have r0 := hr.cell_ 0 rfl
  have r1 := hr.cell_ 1 rfl
  have r2 := hr.cell_ 2 rfl
  have r3 := hr.cell_ 3 rfl
  have f0 := hr.frozen 0
  have f1 := hr.frozen 1
  have f2 := hr.frozen 2
  have f3 := hr.frozen 3
  go_wp2_with fail
  refine bodyPost_ret (v := .agg #[.int .i64 x.m, .int .i64 x.mi, .int .i64 x.c, .int .i64 x.d]) (by simp [results, Try.results59, go_sem, r0, r1, r2, r3]) rfl ⟨rfl, ?_⟩
  exact (((hB.setCell (by simp; omega) _).setCell (by simp; omega) _).setCell (by simp; omega) _).setCell (by simp; omega) _

set_option maxRecDepth 100000 in
theorem refLoad_any (s : Sh) (m : Int) (w : World) (hS : ShAt w w.heap.size s) (hv : VShop s.p) :
    Calls Try.prog 32 #[.agg #[.int .i64 s.p.op, .int .i64 s.p.cl, .slice s.aH s.p.hol.length s.cH, .int .i64 s.p.mach, .slice s.aS s.p.setup.length s.cS, .slice s.aJ s.p.jobs.length s.cJ], .int .i64 m] w fun e w' => e = .returned (.int .i64 (loadF s.p m)) ∧ Below w.heap.size w w' := by
  have hen := ents_len hv
  have hsb := hide (fun (es r : List Ent) (h : es ++ r = ents s.p) => sumM_bd hv m h)
  have hk := Blk.new w 25 #[.int .i64 s.p.op, .int .i64 s.p.cl, .slice s.aH s.p.hol.length s.cH, .int .i64 s.p.mach, .slice s.aS s.p.setup.length s.cS, .slice s.aJ s.p.jobs.length s.cJ]
  have hB := (Below.refl w.heap.size w).alloc (Nat.le_refl _) (.cells #[.int .i64 s.p.op, .int .i64 s.p.cl, .slice s.aH s.p.hol.length s.cH, .int .i64 s.p.mach, .slice s.aS s.p.setup.length s.cS, .slice s.aJ s.p.jobs.length s.cJ] 25)
  go_enter Try.func32, Try.ntmps32
  go_wp2_with fail
  generalize w.alloc (.cells #[.int .i64 s.p.op, .int .i64 s.p.cl, .slice s.aH s.p.hol.length s.cH, .int .i64 s.p.mach, .slice s.aS s.p.setup.length s.cS, .slice s.aJ s.p.jobs.length s.cJ] 25) = W at *
  have c0 := hk.cell_ 0 rfl
  have c1 := hk.cell_ 1 rfl
  have c2 := hk.cell_ 2 rfl
  have c3 := hk.cell_ 3 rfl
  have c4 := hk.cell_ 4 rfl
  have c5 := hk.cell_ 5 rfl
  go_wp2_with fail
  refine (refList_any s _ (hS.on hB) hv).mono ?_
  rintro e W ⟨A, c, rfl, hb, hL⟩
  clear c0 c1 c2 c3 c4 c5
  replace hk := hk.below hb hk.lt
  replace hB := hB.trans (hb.mono hB.size)
  clear hb
  have c0 := hk.cell_ 0 rfl
  have c1 := hk.cell_ 1 rfl
  have c2 := hk.cell_ 2 rfl
  have c3 := hk.cell_ 3 rfl
  have c4 := hk.cell_ 4 rfl
  have c5 := hk.cell_ 5 rfl
  clear c0 c1 c2 c3 c4 c5
  go_wp2_with fail
  go_loopw [5, 7] (fun x y W => ∃ k : Nat, x = .int .i64 (sumM m ((ents s.p).take k)) ∧ y = .int .i64 k ∧ k ≤ (ents s.p).length ∧ Blk W w.heap.size 25 #[.int .i64 s.p.op, .int .i64 s.p.cl, .slice s.aH s.p.hol.length s.cH, .int .i64 s.p.mach, .slice s.aS s.p.setup.length s.cS, .slice s.aJ s.p.jobs.length s.cJ] ∧ Slc Ent.pair 2 W W.heap.size A (ents s.p) ∧ Below w.heap.size w W) (fun x y _ => (ents s.p).length - (intOf y).toNat)
  case atStart => exact ⟨0, rfl, rfl, Nat.zero_le _, hk, hL, hB⟩
  case round =>
    clear hk hB hL
    obtain ⟨W, rfl⟩ : ∃ W : World, W = wr := ⟨_, rfl⟩
    obtain ⟨k, rfl, rfl, hk2, hk, hL, hB⟩ := hrel
    have hs1 := hsb.out _ _ (List.take_append_drop k (ents s.p))
    have c0 := hk.cell_ 0 rfl
    have c1 := hk.cell_ 1 rfl
    have c2 := hk.cell_ 2 rfl
    have c3 := hk.cell_ 3 rfl
    have c4 := hk.cell_ 4 rfl
    have c5 := hk.cell_ 5 rfl
    by_cases hlt : k < (ents s.p).length
    · obtain ⟨en, hen1⟩ : ∃ en, (ents s.p)[k]? = some en := ⟨_, List.getElem?_eq_getElem hlt⟩
      have hs2 := hsb.out _ _ (List.take_append_drop (k + 1) (ents s.p))
      have hmem : en ∈ ents s.p := List.mem_of_getElem? hen1
      have hes := ents_step hv hmem
      have v1 := hv.op0
      have v3 := hv.cl
      obtain ⟨l, hj, hx⟩ := ents_mem hmem
      have HJ := hide hj
      have HX := hide hx
      have HSN : Hid (sumM m ((ents s.p).take (k + 1)) = sumM m ((ents s.p).take k) + if en.x.m = m then en.x.mi else 0) := by
        rw [List.take_add_one, hen1]; exact sumM_snoc m _ en
      obtain ⟨b, off, hA, hb2, d0, d1⟩ := hL.at2 hen1 (v0 := .int .i64 en.j) (v1 := .int .i64 en.k) rfl
      clear hj hx hen1
      subst hA
      have fs0 := fstep0
      have fs1 := fstep1
      have HSW := hS.on hB
      by_cases hm : en.x.m = m
      · have hM : (en.x.m == m) = true := by simpa using hm
        have HM := hide hm
        clear hm
        go_wp2_with fail
        refine wp_region_quiet (C := fun w' => ∃ u : Since W, w' = u.w) (by kernel_rfl) (by kernel_rfl) (Since.start W) ?_
        dsimp only
        have y_c0 := Since.cell c0
        have y_c1 := Since.cell c1
        have y_c2 := Since.cell c2
        have y_c3 := Since.cell c3
        have y_c4 := Since.cell c4
        have y_c5 := Since.cell c5
        have y_d0 := Since.cell d0
        have y_d1 := Since.cell d1
        clear c0 c1 c2 c3 c4 c5
        repeat (go_big_quiet_step ((go_at_call 59; exact Since.calls (at_any s en.j en.k l en.x _ (HSW.on (Since.h _)) HJ.out HX.out))))
        refine wpQuiet_nil ?_
        rintro W ⟨⟨_, hb⟩, rfl⟩
        try dsimp only at hb ⊢
        replace d0 : W.cell? _ = _ := y_d0 ⟨W, hb⟩
        replace d1 : W.cell? _ = _ := y_d1 ⟨W, hb⟩
        clear y_c0 y_c1 y_c2 y_c3 y_c4 y_c5 y_d0 y_d1
        replace hk := hk.below hb hk.lt
        replace hL := (hL.below hb).more hb.size
        replace hB := hB.trans (hb.mono hB.size)
        clear hb
        have c0 := hk.cell_ 0 rfl
        have c1 := hk.cell_ 1 rfl
        have c2 := hk.cell_ 2 rfl
        have c3 := hk.cell_ 3 rfl
        have c4 := hk.cell_ 4 rfl
        have c5 := hk.cell_ 5 rfl
        have HSW := hS.on hB
        have hsn : sumM m ((ents s.p).take (k + 1)) = sumM m ((ents s.p).take k) + en.x.mi := by rw [HSN.out, if_pos HM.out]
        have e1 : IntKind.i64.wrap (sumM m ((ents s.p).take k) + en.x.mi) = sumM m ((ents s.p).take k) + en.x.mi := IntWalk.i64_in _ (by omega)
        have HN := hide hsn
        clear hsn
        go_wp2_with fail
        refine wp_region_quiet (C := fun w' => ∃ u : Since W, w' = u.w) (by kernel_rfl) (by kernel_rfl) (Since.start W) ?_
        dsimp only
        have y_c0 := Since.cell c0
        have y_c1 := Since.cell c1
        have y_c2 := Since.cell c2
        have y_c3 := Since.cell c3
        have y_c4 := Since.cell c4
        have y_c5 := Since.cell c5
        have y_d0 := Since.cell d0
        have y_d1 := Since.cell d1
        clear c0 c1 c2 c3 c4 c5
        repeat (go_big_quiet_step ((go_at_call 59; exact Since.calls (at_any s en.j en.k l en.x _ (HSW.on (Since.h _)) HJ.out HX.out))))
        refine wpQuiet_nil ?_
        rintro W ⟨⟨_, hb⟩, rfl⟩
        try dsimp only at hb ⊢
        replace d0 : W.cell? _ = _ := y_d0 ⟨W, hb⟩
        replace d1 : W.cell? _ = _ := y_d1 ⟨W, hb⟩
        clear y_c0 y_c1 y_c2 y_c3 y_c4 y_c5 y_d0 y_d1
        replace hk := hk.below hb hk.lt
        replace hL := (hL.below hb).more hb.size
        replace hB := hB.trans (hb.mono hB.size)
        clear hb
        have c0 := hk.cell_ 0 rfl
        have c1 := hk.cell_ 1 rfl
        have c2 := hk.cell_ 2 rfl
        have c3 := hk.cell_ 3 rfl
        have c4 := hk.cell_ 4 rfl
        have c5 := hk.cell_ 5 rfl
        clear e1
        go_wp2_with fail
        go_roundw
        case rel => exact ⟨k + 1, by rw [HN.out], by go_num, by omega, hk, hL, hB⟩
        case measure => simp [intOf]; omega
      · have hM : (en.x.m == m) = false := by simpa using hm
        have HM := hide hm
        clear hm
        go_wp2_with fail
        refine wp_region_quiet (C := fun w' => ∃ u : Since W, w' = u.w) (by kernel_rfl) (by kernel_rfl) (Since.start W) ?_
        dsimp only
        have y_c0 := Since.cell c0
        have y_c1 := Since.cell c1
        have y_c2 := Since.cell c2
        have y_c3 := Since.cell c3
        have y_c4 := Since.cell c4
        have y_c5 := Since.cell c5
        have y_d0 := Since.cell d0
        have y_d1 := Since.cell d1
        clear c0 c1 c2 c3 c4 c5
        repeat (go_big_quiet_step ((go_at_call 59; exact Since.calls (at_any s en.j en.k l en.x _ (HSW.on (Since.h _)) HJ.out HX.out))))
        refine wpQuiet_nil ?_
        rintro W ⟨⟨_, hb⟩, rfl⟩
        try dsimp only at hb ⊢
        replace d0 : W.cell? _ = _ := y_d0 ⟨W, hb⟩
        replace d1 : W.cell? _ = _ := y_d1 ⟨W, hb⟩
        clear y_c0 y_c1 y_c2 y_c3 y_c4 y_c5 y_d0 y_d1
        replace hk := hk.below hb hk.lt
        replace hL := (hL.below hb).more hb.size
        replace hB := hB.trans (hb.mono hB.size)
        clear hb
        have c0 := hk.cell_ 0 rfl
        have c1 := hk.cell_ 1 rfl
        have c2 := hk.cell_ 2 rfl
        have c3 := hk.cell_ 3 rfl
        have c4 := hk.cell_ 4 rfl
        have c5 := hk.cell_ 5 rfl
        go_wp2_with fail
        go_roundw
        case rel => exact ⟨k + 1, by rw [HSN.out, if_neg HM.out, Int.add_zero], by go_num, by omega, hk, hL, hB⟩
        case measure => simp [intOf]; omega
    · obtain rfl : k = (ents s.p).length := by omega
      rw [List.take_length] at *
      by_cases h0 : sumM m (ents s.p) = 0
      · have H0 := hide h0
        have h0b : (sumM m (ents s.p) == 0) = true := by simpa using h0
        clear h0
        go_wp2_with fail
        go_ret
        exact ⟨ret_int (by unfold loadF; rw [H0.out, after_zero]), hB⟩
      · have h0b : (sumM m (ents s.p) == 0) = false := by simpa using h0
        go_wp2_with fail
        refine (refAfter_any s 0 (sumM m (ents s.p)) _ (hS.on hB) hv (by omega) (by omega) (by omega) (by omega)).mono ?_
        rintro e W ⟨rfl, hb⟩
        clear c0 c1 c2 c3 c4 c5
        replace hk := hk.below hb hk.lt
        replace hL := (hL.below hb).more hb.size
        replace hB := hB.trans (hb.mono hB.size)
        clear hb
        have c0 := hk.cell_ 0 rfl
        have c1 := hk.cell_ 1 rfl
        have c2 := hk.cell_ 2 rfl
        have c3 := hk.cell_ 3 rfl
        have c4 := hk.cell_ 4 rfl
        have c5 := hk.cell_ 5 rfl
        go_wp2_with fail
        go_ret
        exact ⟨rfl, hB⟩
end Go.Proofs.Ytcpnfcnobnjhdaa

/- Plans: the plain words, and what a plan in memory is. -/
namespace Go.Proofs.Ytcpnfcnobnjhdaa
open Go.RowKit
/-- a slice of slices whose elements are told by 'enc' -/
def Nest {α : Type} (enc : α → List Value) (sz : Nat) (w : World) (B : Nat) (A : Option Addr) (ls : List (List α)) : Prop :=
  ∀ (i : Nat) l, ls[i]? = some l → ∃ b off A' c', A = some ⟨b, off, none⟩ ∧ b < B ∧ w.cell? ⟨b, off + i, none⟩ = some (.slice A' l.length c') ∧ Slc enc sz w B A' l
section
variable {α : Type} {enc : α → List Value} {sz : Nat} {w w' : World} {B B' : Nat} {A : Option Addr} {ls : List (List α)}
theorem Nest.nil_ : Nest enc sz w B A ([] : List (List α)) := fun i l h => by simp at h
theorem Nest.keep (h : Nest enc sz w B A ls) (hk : ∀ p : Addr, p.block < B → w'.cell? p = w.cell? p) : Nest enc sz w' B A ls := fun i l hl => by
  obtain ⟨b, off, A', c', hA, hb, hc, hS⟩ := h i l hl
  exact ⟨b, off, A', c', hA, hb, (hk _ hb).trans hc, hS.keep hk⟩
theorem Nest.below (h : Nest enc sz w B A ls) (hb : Below B w w') : Nest enc sz w' B A ls := h.keep fun _ hp => hb.cell hp
theorem Nest.more (h : Nest enc sz w B A ls) (hB : B ≤ B') : Nest enc sz w B' A ls := fun i l hl => by
  obtain ⟨b, off, A', c', hA, hb, hc, hS⟩ := h i l hl
  exact ⟨b, off, A', c', hA, by omega, hc, hS.more hB⟩
theorem Nest.on (h : Nest enc sz w w.heap.size A ls) (hb : Below w.heap.size w w') : Nest enc sz w' w'.heap.size A ls := (h.below hb).more hb.size
theorem Slc.on {xs : List α} (h : Slc enc sz w w.heap.size A xs) (hb : Below w.heap.size w w') : Slc enc sz w' w'.heap.size A xs := (h.below hb).more hb.size
end
/-- a plan: for each job the starts of its steps -/
abbrev Plan (w : World) (B : Nat) (A : Option Addr) (pl : List (List Int)) : Prop := Nest intEnc 1 w B A pl
/-- a step with its job, its number and its start -/
structure At where
  j : Nat
  k : Nat
  t : Int
  x : Step
instance : Inhabited At := ⟨⟨0, 0, 0, ⟨0, 0, 0, 0⟩⟩⟩
def At.enc (a : At) : List Value := [.int .i64 a.j, .int .i64 a.k, .int .i64 a.t, .int .i64 a.x.m, .int .i64 a.x.mi, .int .i64 a.x.c, .int .i64 a.x.d]
def planAt (pl : List (List Int)) (j k : Nat) : Int := (pl.getD j []).getD k 0
def mkAt (pl : List (List Int)) (e : Ent) : At := ⟨e.j, e.k, planAt pl e.j e.k, e.x⟩
def ats (p : Shop) (pl : List (List Int)) : List At := (ents p).map (mkAt pl)
def At.end_ (a : At) : Int := a.t + a.x.mi
def At.dry (a : At) : Int := a.t + a.x.mi + a.x.d
/-- one start for each step, in range -/
def shapeL : List (List Int) → List (List Step) → Bool
  | l :: r, s :: q => decide (l.length = s.length) && l.all (fun t => inB 0 t 100000000) && shapeL r q
  | _, _ => true
def shapedB (p : Shop) (pl : List (List Int)) : Bool := decide (pl.length = p.jobs.length) && shapeL pl p.jobs
theorem shapeL_step {l : List Int} {s : List Step} {pl : List (List Int)} {js : List (List Step)} {i : Nat} (h1 : pl[i]? = some l) (h2 : js[i]? = some s) :
    shapeL (pl.drop i) (js.drop i) = (decide (l.length = s.length) && l.all (fun t => inB 0 t 100000000) && shapeL (pl.drop (i + 1)) (js.drop (i + 1))) := by
  obtain ⟨g1, g2⟩ := List.getElem?_eq_some_iff.1 h1
  obtain ⟨g3, g4⟩ := List.getElem?_eq_some_iff.1 h2
  rw [List.drop_eq_getElem_cons g1, List.drop_eq_getElem_cons g3, g2, g4]; rfl
theorem shapeL_at : ∀ {pl : List (List Int)} {js : List (List Step)}, shapeL pl js = true → ∀ (i : Nat) l s, pl[i]? = some l → js[i]? = some s → l.length = s.length ∧ ∀ (k : Nat) t, l[k]? = some t → 0 ≤ t ∧ t ≤ 100000000
  | [], _, _, i, l, s, h1, _ => by simp at h1
  | _ :: _, [], _, i, l, s, _, h2 => by simp at h2
  | l' :: r, s' :: q, h, i, l, s, h1, h2 => by
    simp only [shapeL, Bool.and_eq_true, decide_eq_true_eq, List.all_eq_true] at h
    cases i with
    | zero =>
      simp at h1 h2; subst h1 h2
      exact ⟨h.1.1, fun k t hk => inB_iff.1 (h.1.2 t (List.mem_of_getElem? hk))⟩
    | succ i => simp at h1 h2; exact shapeL_at h.2 i l s h1 h2
/-- the facts of a shaped plan -/
structure VPlan (p : Shop) (pl : List (List Int)) : Prop where
  len : pl.length = p.jobs.length
  at_ : ∀ (i : Nat) l s, pl[i]? = some l → p.jobs[i]? = some s → l.length = s.length ∧ ∀ (k : Nat) t, l[k]? = some t → 0 ≤ t ∧ t ≤ 100000000
theorem shaped_facts {p : Shop} {pl : List (List Int)} (h : shapedB p pl = true) : VPlan p pl := by
  simp only [shapedB, Bool.and_eq_true, decide_eq_true_eq] at h
  exact ⟨h.1, shapeL_at h.2⟩
theorem VPlan.row {p : Shop} {pl : List (List Int)} (h : VPlan p pl) {j : Nat} {s : List Step} (hj : p.jobs[j]? = some s) : ∃ l, pl[j]? = some l ∧ l.length = s.length := by
  have hl : j < pl.length := by rw [h.len]; exact (List.getElem?_eq_some_iff.1 hj).1
  exact ⟨pl[j], List.getElem?_eq_getElem hl, (h.at_ j _ s (List.getElem?_eq_getElem hl) hj).1⟩
theorem planAt_eq {pl : List (List Int)} {j k : Nat} {l : List Int} {t : Int} (h1 : pl[j]? = some l) (h2 : l[k]? = some t) : planAt pl j k = t := by
  unfold planAt; simp [List.getD_eq_getElem?_getD, h1, h2]
/-- a step of a shaped plan has its start -/
theorem VPlan.start {p : Shop} {pl : List (List Int)} (h : VPlan p pl) {j k : Nat} {s : List Step} {x : Step} (hj : p.jobs[j]? = some s) (hk : s[k]? = some x) : ∃ l t, pl[j]? = some l ∧ l[k]? = some t ∧ planAt pl j k = t ∧ 0 ≤ t ∧ t ≤ 100000000 := by
  obtain ⟨l, hl, hlen⟩ := h.row hj
  have hk' : k < l.length := by rw [hlen]; exact (List.getElem?_eq_some_iff.1 hk).1
  have ht : l[k]? = some l[k] := List.getElem?_eq_getElem hk'
  have hb := (h.at_ j l s hl hj).2 k _ ht
  exact ⟨l, l[k], hl, ht, planAt_eq hl ht, hb⟩
theorem ats_len (p : Shop) (pl : List (List Int)) : (ats p pl).length = (ents p).length := by simp [ats]
theorem ats_at {p : Shop} {pl : List (List Int)} {i : Nat} {a : At} (h : (ats p pl)[i]? = some a) : ∃ e, (ents p)[i]? = some e ∧ mkAt pl e = a := by
  simp [ats] at h; exact h
/-- what is known of an element of the list -/
structure AtOk (p : Shop) (pl : List (List Int)) (a : At) : Prop where
  job : ∃ s, p.jobs[a.j]? = some s ∧ s[a.k]? = some a.x
  start : a.t = planAt pl a.j a.k
  m0 : 0 ≤ a.x.m
  m1 : a.x.m < p.mach
  mi0 : 1 ≤ a.x.mi
  mi1 : a.x.mi ≤ p.cl - p.op
  c0 : 0 ≤ a.x.c
  c1 : a.x.c ≤ 9
  d0 : 0 ≤ a.x.d
  d1 : a.x.d ≤ 10000
  t0 : 0 ≤ a.t
  t1 : a.t ≤ 100000000
theorem ats_ok {p : Shop} (hv : VShop p) {pl : List (List Int)} (hp : VPlan p pl) {a : At} (h : a ∈ ats p pl) : AtOk p pl a := by
  obtain ⟨e, he, rfl⟩ := List.mem_map.1 h
  obtain ⟨s, h1, h2⟩ := ents_mem he
  obtain ⟨m0, m1, mi0, mi1, c0, c1, d0, d1⟩ := ents_step hv he
  obtain ⟨l, t, g1, g2, g3, g4, g5⟩ := hp.start h1 h2
  exact ⟨⟨s, h1, h2⟩, rfl, m0, m1, mi0, mi1, c0, c1, d0, d1, by show 0 ≤ planAt pl e.j e.k; omega, by show planAt pl e.j e.k ≤ _; omega⟩

/-! the judge -/
noncomputable def setupOf (p : Shop) (m : Int) : Int := p.setup.getD m.toNat 0
noncomputable def roomF (p : Shop) (b : At) (c : Int) : Int := if b.x.c = c then b.end_ else b.end_ + setupOf p b.x.m
noncomputable def togB (p : Shop) (a b : At) : Bool := !decide (a.x.m = b.x.m) || decide (roomF p a b.x.c ≤ b.t) || decide (roomF p b a.x.c ≤ a.t)
def shiftBad (p : Shop) : List At → Option At
  | [] => none
  | a :: r => if shiftB p a.t a.x.mi then shiftBad p r else some a
def earlyBad : Int → List At → Option At
  | _, [] => none
  | dr, a :: r => if 0 < a.k ∧ a.t < dr then some a else earlyBad a.dry r
noncomputable def clashBad (p : Shop) : List At → Option At
  | [] => none
  | a :: r => if r.all (togB p a) then clashBad p r else some a
noncomputable def judgeL (p : Shop) (l : List At) : Nat × Nat × Int :=
  match shiftBad p l with
  | some a => (a.j, a.k, 51)
  | none => match earlyBad 0 l with
    | some a => (a.j, a.k, 52)
    | none => match clashBad p l with
      | some a => (a.j, a.k, 53)
      | none => (0, 0, 0)
noncomputable def judgeF (p : Shop) (pl : List (List Int)) : Nat × Nat × Int := if shapedB p pl then judgeL p (ats p pl) else (0, 0, 2)
def V3 (x : Nat × Nat × Int) : Value := .tuple #[.int .i64 x.1, .int .i64 x.2.1, .int .i64 x.2.2]
theorem shiftBad_drop {p : Shop} {l : List At} {k : Nat} {a : At} (h : l[k]? = some a) : shiftBad p (l.drop k) = if shiftB p a.t a.x.mi then shiftBad p (l.drop (k + 1)) else some a := by
  obtain ⟨hl, hf⟩ := List.getElem?_eq_some_iff.1 h
  rw [List.drop_eq_getElem_cons hl, hf]; rfl
theorem earlyBad_drop {dr : Int} {l : List At} {k : Nat} {a : At} (h : l[k]? = some a) : earlyBad dr (l.drop k) = if 0 < a.k ∧ a.t < dr then some a else earlyBad a.dry (l.drop (k + 1)) := by
  obtain ⟨hl, hf⟩ := List.getElem?_eq_some_iff.1 h
  rw [List.drop_eq_getElem_cons hl, hf]; rfl
theorem clashBad_drop {p : Shop} {l : List At} {k : Nat} {a : At} (h : l[k]? = some a) : clashBad p (l.drop k) = if (l.drop (k + 1)).all (togB p a) then clashBad p (l.drop (k + 1)) else some a := by
  obtain ⟨hl, hf⟩ := List.getElem?_eq_some_iff.1 h
  rw [List.drop_eq_getElem_cons hl, hf]; rfl
/-- a step that is not its job's first has the one before it in front of it in the list -/
theorem stepsFrom_get {j : Nat} : ∀ {l : List Step} {k i : Nat} {e : Ent}, (stepsFrom j k l)[i]? = some e → e.j = j ∧ e.k = k + i
  | [], k, i, e, h => by simp [stepsFrom] at h
  | x :: r, k, 0, e, h => by simp [stepsFrom] at h; subst h; exact ⟨rfl, rfl⟩
  | x :: r, k, i + 1, e, h => by
    simp [stepsFrom] at h
    obtain ⟨h1, h2⟩ := stepsFrom_get h
    exact ⟨h1, by omega⟩
theorem entsFrom_prev : ∀ {js : List (List Step)} {j i : Nat} {e : Ent}, (entsFrom j js)[i]? = some e → 0 < e.k → ∃ i', i = i' + 1 ∧ ∃ e', (entsFrom j js)[i']? = some e' ∧ e'.j = e.j ∧ e'.k + 1 = e.k
  | [], j, i, e, h, _ => by simp [entsFrom] at h
  | l :: r, j, i, e, h, hk => by
    simp only [entsFrom] at h ⊢
    by_cases hi : i < (stepsFrom j 0 l).length
    · rw [List.getElem?_append_left hi] at h
      obtain ⟨h1, h2⟩ := stepsFrom_get h
      obtain ⟨i', rfl⟩ : ∃ i', i = i' + 1 := ⟨i - 1, by omega⟩
      have hi' : i' < (stepsFrom j 0 l).length := by omega
      refine ⟨i', rfl, (stepsFrom j 0 l)[i'], by rw [List.getElem?_append_left hi']; exact List.getElem?_eq_getElem hi', ?_⟩
      obtain ⟨g1, g2⟩ := stepsFrom_get (List.getElem?_eq_getElem hi')
      exact ⟨by omega, by omega⟩
    · rw [List.getElem?_append_right (by omega)] at h
      obtain ⟨i', h1, e', h2, h3⟩ := entsFrom_prev h hk
      refine ⟨i' + (stepsFrom j 0 l).length, by omega, e', ?_, h3⟩
      rw [List.getElem?_append_right (by omega)]
      rw [show i' + (stepsFrom j 0 l).length - (stepsFrom j 0 l).length = i' by omega]
      exact h2
theorem ats_prev {p : Shop} {pl : List (List Int)} {i : Nat} {a : At} (h : (ats p pl)[i]? = some a) (hk : 0 < a.k) : ∃ i', i = i' + 1 ∧ ∃ b, (ats p pl)[i']? = some b ∧ b.j = a.j ∧ b.k + 1 = a.k := by
  obtain ⟨e, he, rfl⟩ := ats_at h
  obtain ⟨i', h1, e', h2, h3, h4⟩ := entsFrom_prev he hk
  refine ⟨i', h1, mkAt pl e', ?_, h3, h4⟩
  unfold ats; rw [List.getElem?_map]
  show Option.map _ ((ents p)[i']?) = _
  unfold ents; rw [h2]; rfl
end Go.Proofs.Ytcpnfcnobnjhdaa

/- Bounds and the law ShopChains: the walks. -/
namespace Go.Proofs.Ytcpnfcnobnjhdaa
open Go.RowKit
/-- the greatest of a and the first n values of f -/
noncomputable def maxTo (f : Nat → Int) (a : Int) : Nat → Int
  | 0 => a
  | n + 1 => max (maxTo f a n) (f n)
noncomputable def jobF (p : Shop) (j : Nat) : Int := chainF p (p.jobs.getD j [])
noncomputable def boundF (p : Shop) : Int := maxTo (fun m => loadF p m) (maxTo (jobF p) 0 p.jobs.length) p.mach.toNat
theorem jobF_at {p : Shop} {j : Nat} {l : List Step} (h : p.jobs[j]? = some l) : jobF p j = chainF p l := by unfold jobF; rw [List.getD_eq_getElem?_getD, h]; rfl

set_option maxRecDepth 100000 in
theorem bound_any (s : Sh) (w : World) (hS : ShAt w w.heap.size s) (hvB : validShop s.p = true) :
    Calls Try.prog 29 #[.agg #[.int .i64 s.p.op, .int .i64 s.p.cl, .slice s.aH s.p.hol.length s.cH, .int .i64 s.p.mach, .slice s.aS s.p.setup.length s.cS, .slice s.aJ s.p.jobs.length s.cJ]] w fun e w' => e = .returned (.tuple #[.int .i64 (boundF s.p), .int .i64 0]) ∧ Below w.heap.size w w' := by
  have hv := valid_facts hvB
  have hf := hv.fits
  have hjn := hv.jobn
  have hm1 := hv.mach1
  have hm6 := hv.mach6
  have hk := Blk.new w 25 #[.int .i64 s.p.op, .int .i64 s.p.cl, .slice s.aH s.p.hol.length s.cH, .int .i64 s.p.mach, .slice s.aS s.p.setup.length s.cS, .slice s.aJ s.p.jobs.length s.cJ]
  have hB := (Below.refl w.heap.size w).alloc (Nat.le_refl _) (.cells #[.int .i64 s.p.op, .int .i64 s.p.cl, .slice s.aH s.p.hol.length s.cH, .int .i64 s.p.mach, .slice s.aS s.p.setup.length s.cS, .slice s.aJ s.p.jobs.length s.cJ] 25)
  go_enter Try.func29, Try.ntmps29
  go_wp2_with fail
  generalize w.alloc (.cells #[.int .i64 s.p.op, .int .i64 s.p.cl, .slice s.aH s.p.hol.length s.cH, .int .i64 s.p.mach, .slice s.aS s.p.setup.length s.cS, .slice s.aJ s.p.jobs.length s.cJ] 25) = W at *
  have c0 := hk.cell_ 0 rfl
  have c1 := hk.cell_ 1 rfl
  have c2 := hk.cell_ 2 rfl
  have c3 := hk.cell_ 3 rfl
  have c4 := hk.cell_ 4 rfl
  have c5 := hk.cell_ 5 rfl
  go_wp2_with fail
  refine (valid_any s _ (hS.on hB) hf.h1 hf.h2 hf.h3 hf.h4).mono ?_
  rintro e W ⟨rfl, hb⟩
  clear c0 c1 c2 c3 c4 c5
  replace hk := hk.below hb hk.lt
  replace hB := hB.trans (hb.mono hB.size)
  clear hb
  have c0 := hk.cell_ 0 rfl
  have c1 := hk.cell_ 1 rfl
  have c2 := hk.cell_ 2 rfl
  have c3 := hk.cell_ 3 rfl
  have c4 := hk.cell_ 4 rfl
  have c5 := hk.cell_ 5 rfl
  rw [hvB]
  go_wp2_with fail
  clear c0 c1 c2 c3 c4 c5
  go_loopw [4, 13] (fun x y W => ∃ j : Nat, x = .int .i64 (maxTo (jobF s.p) 0 j) ∧ y = .int .i64 j ∧ j ≤ s.p.jobs.length ∧ Blk W w.heap.size 25 #[.int .i64 s.p.op, .int .i64 s.p.cl, .slice s.aH s.p.hol.length s.cH, .int .i64 s.p.mach, .slice s.aS s.p.setup.length s.cS, .slice s.aJ s.p.jobs.length s.cJ] ∧ Below w.heap.size w W) (fun x y _ => s.p.jobs.length - (intOf y).toNat)
  case atStart => exact ⟨0, rfl, rfl, Nat.zero_le _, hk, hB⟩
  case round =>
    clear hk hB
    obtain ⟨W, rfl⟩ : ∃ W : World, W = wr := ⟨_, rfl⟩
    obtain ⟨j, rfl, rfl, hj, hk, hB⟩ := hrel
    have c0 := hk.cell_ 0 rfl
    have c1 := hk.cell_ 1 rfl
    have c2 := hk.cell_ 2 rfl
    have c3 := hk.cell_ 3 rfl
    have c4 := hk.cell_ 4 rfl
    have c5 := hk.cell_ 5 rfl
    by_cases hlt : j < s.p.jobs.length
    · obtain ⟨l, hjl⟩ : ∃ l, s.p.jobs[j]? = some l := ⟨_, List.getElem?_eq_getElem hlt⟩
      have HJ := hide (jobF_at hjl)
      go_wp2_with fail
      refine (chain_any s j l _ (hS.on hB) hv hjl).mono ?_
      rintro e W ⟨rfl, hb⟩
      clear c0 c1 c2 c3 c4 c5
      replace hk := hk.below hb hk.lt
      replace hB := hB.trans (hb.mono hB.size)
      clear hb
      have c0 := hk.cell_ 0 rfl
      have c1 := hk.cell_ 1 rfl
      have c2 := hk.cell_ 2 rfl
      have c3 := hk.cell_ 3 rfl
      have c4 := hk.cell_ 4 rfl
      have c5 := hk.cell_ 5 rfl
      clear hjl
      rw [← HJ.out]
      have HM := hide (show maxTo (jobF s.p) 0 (j + 1) = max (maxTo (jobF s.p) 0 j) (jobF s.p j) from rfl)
      generalize hM1 : maxTo (jobF s.p) 0 j = M at *
      generalize jobF s.p j = V at *
      clear hM1
      by_cases hc : M < V
      all_goals
        go_wp2_with fail
        go_roundw
        case rel => exact ⟨j + 1, by rw [HM.out]; go_num, by go_num, by omega, hk, hB⟩
        case measure => simp [intOf]; omega
    · obtain rfl : j = s.p.jobs.length := by omega
      have HBF : Hid (boundF s.p = maxTo (fun m => loadF s.p m) (maxTo (jobF s.p) 0 s.p.jobs.length) s.p.mach.toNat) := rfl
      generalize maxTo (jobF s.p) 0 s.p.jobs.length = M0 at *
      go_wp2_with fail
      clear c0 c1 c2 c3 c4 c5
      go_loopw [4, 24] (fun x y W => ∃ j : Nat, x = .int .i64 (maxTo (fun m => loadF s.p m) M0 j) ∧ y = .int .i64 j ∧ (j : Int) ≤ s.p.mach ∧ Blk W w.heap.size 25 #[.int .i64 s.p.op, .int .i64 s.p.cl, .slice s.aH s.p.hol.length s.cH, .int .i64 s.p.mach, .slice s.aS s.p.setup.length s.cS, .slice s.aJ s.p.jobs.length s.cJ] ∧ Below w.heap.size w W) (fun x y _ => (s.p.mach - intOf y).toNat)
      case atStart => exact ⟨0, rfl, rfl, by omega, hk, hB⟩
      case round =>
        clear hk hB
        obtain ⟨W, rfl⟩ : ∃ W : World, W = wr := ⟨_, rfl⟩
        obtain ⟨j, rfl, rfl, hj, hk, hB⟩ := hrel
        have c0 := hk.cell_ 0 rfl
        have c1 := hk.cell_ 1 rfl
        have c2 := hk.cell_ 2 rfl
        have c3 := hk.cell_ 3 rfl
        have c4 := hk.cell_ 4 rfl
        have c5 := hk.cell_ 5 rfl
        by_cases hlt : (j : Int) < s.p.mach
        · go_wp2_with fail
          refine (load_any s j _ (hS.on hB) hv).mono ?_
          rintro e W ⟨rfl, hb⟩
          clear c0 c1 c2 c3 c4 c5
          replace hk := hk.below hb hk.lt
          replace hB := hB.trans (hb.mono hB.size)
          clear hb
          have c0 := hk.cell_ 0 rfl
          have c1 := hk.cell_ 1 rfl
          have c2 := hk.cell_ 2 rfl
          have c3 := hk.cell_ 3 rfl
          have c4 := hk.cell_ 4 rfl
          have c5 := hk.cell_ 5 rfl
          have HM := hide (show maxTo (fun m => loadF s.p m) M0 (j + 1) = max (maxTo (fun m => loadF s.p m) M0 j) (loadF s.p j) from rfl)
          generalize hM1 : maxTo (fun m => loadF s.p m) M0 j = M at *
          generalize hV1 : loadF s.p j = V at *
          clear hM1 hV1
          by_cases hc : M < V
          all_goals
            go_wp2_with fail
            go_roundw
            case rel => exact ⟨j + 1, by rw [HM.out]; go_num, by go_num, by omega, hk, hB⟩
            case measure => simp [intOf]; omega
        · have HE := hide (show boundF s.p = maxTo (fun m => loadF s.p m) M0 j by rw [HBF.out]; congr 1; omega)
          clear HBF
          go_wp2_with fail
          go_ret2
          exact ⟨by rw [HE.out]; rfl, hB⟩

set_option maxRecDepth 100000 in
theorem refBound_any (s : Sh) (w : World) (hS : ShAt w w.heap.size s) (hvB : validShop s.p = true) :
    Calls Try.prog 30 #[.agg #[.int .i64 s.p.op, .int .i64 s.p.cl, .slice s.aH s.p.hol.length s.cH, .int .i64 s.p.mach, .slice s.aS s.p.setup.length s.cS, .slice s.aJ s.p.jobs.length s.cJ]] w fun e w' => e = .returned (.int .i64 (boundF s.p)) ∧ Below w.heap.size w w' := by
  have hv := valid_facts hvB
  have hjn := hv.jobn
  have hm1 := hv.mach1
  have hm6 := hv.mach6
  have hk := Blk.new w 25 #[.int .i64 s.p.op, .int .i64 s.p.cl, .slice s.aH s.p.hol.length s.cH, .int .i64 s.p.mach, .slice s.aS s.p.setup.length s.cS, .slice s.aJ s.p.jobs.length s.cJ]
  have hB := (Below.refl w.heap.size w).alloc (Nat.le_refl _) (.cells #[.int .i64 s.p.op, .int .i64 s.p.cl, .slice s.aH s.p.hol.length s.cH, .int .i64 s.p.mach, .slice s.aS s.p.setup.length s.cS, .slice s.aJ s.p.jobs.length s.cJ] 25)
  go_enter Try.func30, Try.ntmps30
  go_wp2_with fail
  generalize w.alloc (.cells #[.int .i64 s.p.op, .int .i64 s.p.cl, .slice s.aH s.p.hol.length s.cH, .int .i64 s.p.mach, .slice s.aS s.p.setup.length s.cS, .slice s.aJ s.p.jobs.length s.cJ] 25) = W at *
  go_loopw [3, 4] (fun x y W => ∃ j : Nat, x = .int .i64 (maxTo (jobF s.p) 0 j) ∧ y = .int .i64 j ∧ j ≤ s.p.jobs.length ∧ Blk W w.heap.size 25 #[.int .i64 s.p.op, .int .i64 s.p.cl, .slice s.aH s.p.hol.length s.cH, .int .i64 s.p.mach, .slice s.aS s.p.setup.length s.cS, .slice s.aJ s.p.jobs.length s.cJ] ∧ Below w.heap.size w W) (fun x y _ => s.p.jobs.length - (intOf y).toNat)
  case atStart => exact ⟨0, rfl, rfl, Nat.zero_le _, hk, hB⟩
  case round =>
    clear hk hB
    obtain ⟨W, rfl⟩ : ∃ W : World, W = wr := ⟨_, rfl⟩
    obtain ⟨j, rfl, rfl, hj, hk, hB⟩ := hrel
    have c0 := hk.cell_ 0 rfl
    have c1 := hk.cell_ 1 rfl
    have c2 := hk.cell_ 2 rfl
    have c3 := hk.cell_ 3 rfl
    have c4 := hk.cell_ 4 rfl
    have c5 := hk.cell_ 5 rfl
    by_cases hlt : j < s.p.jobs.length
    · obtain ⟨l, hjl⟩ : ∃ l, s.p.jobs[j]? = some l := ⟨_, List.getElem?_eq_getElem hlt⟩
      have HJ := hide (jobF_at hjl)
      go_wp2_with fail
      refine (refChain_any s j l _ (hS.on hB) hv hjl).mono ?_
      rintro e W ⟨rfl, hb⟩
      clear c0 c1 c2 c3 c4 c5
      replace hk := hk.below hb hk.lt
      replace hB := hB.trans (hb.mono hB.size)
      clear hb
      have c0 := hk.cell_ 0 rfl
      have c1 := hk.cell_ 1 rfl
      have c2 := hk.cell_ 2 rfl
      have c3 := hk.cell_ 3 rfl
      have c4 := hk.cell_ 4 rfl
      have c5 := hk.cell_ 5 rfl
      clear hjl
      rw [← HJ.out]
      have HM := hide (show maxTo (jobF s.p) 0 (j + 1) = max (maxTo (jobF s.p) 0 j) (jobF s.p j) from rfl)
      generalize hM1 : maxTo (jobF s.p) 0 j = M at *
      generalize jobF s.p j = V at *
      clear hM1
      by_cases hc : M < V
      all_goals
        go_wp2_with fail
        go_roundw
        case rel => exact ⟨j + 1, by rw [HM.out]; go_num, by go_num, by omega, hk, hB⟩
        case measure => simp [intOf]; omega
    · obtain rfl : j = s.p.jobs.length := by omega
      have HBF : Hid (boundF s.p = maxTo (fun m => loadF s.p m) (maxTo (jobF s.p) 0 s.p.jobs.length) s.p.mach.toNat) := rfl
      generalize maxTo (jobF s.p) 0 s.p.jobs.length = M0 at *
      go_wp2_with fail
      clear c0 c1 c2 c3 c4 c5
      go_loopw [3, 5] (fun x y W => ∃ j : Nat, x = .int .i64 (maxTo (fun m => loadF s.p m) M0 j) ∧ y = .int .i64 j ∧ (j : Int) ≤ s.p.mach ∧ Blk W w.heap.size 25 #[.int .i64 s.p.op, .int .i64 s.p.cl, .slice s.aH s.p.hol.length s.cH, .int .i64 s.p.mach, .slice s.aS s.p.setup.length s.cS, .slice s.aJ s.p.jobs.length s.cJ] ∧ Below w.heap.size w W) (fun x y _ => (s.p.mach - intOf y).toNat)
      case atStart => exact ⟨0, rfl, rfl, by omega, hk, hB⟩
      case round =>
        clear hk hB
        obtain ⟨W, rfl⟩ : ∃ W : World, W = wr := ⟨_, rfl⟩
        obtain ⟨j, rfl, rfl, hj, hk, hB⟩ := hrel
        have c0 := hk.cell_ 0 rfl
        have c1 := hk.cell_ 1 rfl
        have c2 := hk.cell_ 2 rfl
        have c3 := hk.cell_ 3 rfl
        have c4 := hk.cell_ 4 rfl
        have c5 := hk.cell_ 5 rfl
        by_cases hlt : (j : Int) < s.p.mach
        · go_wp2_with fail
          refine (refLoad_any s j _ (hS.on hB) hv).mono ?_
          rintro e W ⟨rfl, hb⟩
          clear c0 c1 c2 c3 c4 c5
          replace hk := hk.below hb hk.lt
          replace hB := hB.trans (hb.mono hB.size)
          clear hb
          have c0 := hk.cell_ 0 rfl
          have c1 := hk.cell_ 1 rfl
          have c2 := hk.cell_ 2 rfl
          have c3 := hk.cell_ 3 rfl
          have c4 := hk.cell_ 4 rfl
          have c5 := hk.cell_ 5 rfl
          have HM := hide (show maxTo (fun m => loadF s.p m) M0 (j + 1) = max (maxTo (fun m => loadF s.p m) M0 j) (loadF s.p j) from rfl)
          generalize hM1 : maxTo (fun m => loadF s.p m) M0 j = M at *
          generalize hV1 : loadF s.p j = V at *
          clear hM1 hV1
          by_cases hc : M < V
          all_goals
            go_wp2_with fail
            go_roundw
            case rel => exact ⟨j + 1, by rw [HM.out]; go_num, by go_num, by omega, hk, hB⟩
            case measure => simp [intOf]; omega
        · have HE := hide (show boundF s.p = maxTo (fun m => loadF s.p m) M0 j by rw [HBF.out]; congr 1; omega)
          clear HBF
          go_wp2_with fail
          go_ret
          exact ⟨ret_int (by rw [HE.out]), hB⟩

noncomputable def chainV (p : Shop) (j : Int) : Value := if inB 0 j (p.jobs.length - 1) then .tuple #[.int .i64 (jobF p j.toNat), .int .i64 0] else .tuple #[.int .i64 0, .int .i64 2]
noncomputable def loadV (p : Shop) (m : Int) : Value := if inB 0 m (p.mach - 1) then .tuple #[.int .i64 (loadF p m), .int .i64 0] else .tuple #[.int .i64 0, .int .i64 2]
theorem chainV_no {p : Shop} {j : Int} (h : inB 0 j (p.jobs.length - 1) = false) : chainV p j = .tuple #[.int .i64 0, .int .i64 2] := by unfold chainV; rw [h]; rfl
theorem chainV_ok {p : Shop} {j : Int} (h : inB 0 j (p.jobs.length - 1) = true) : chainV p j = .tuple #[.int .i64 (jobF p j.toNat), .int .i64 0] := by unfold chainV; rw [h]; rfl
theorem loadV_no {p : Shop} {m : Int} (h : inB 0 m (p.mach - 1) = false) : loadV p m = .tuple #[.int .i64 0, .int .i64 2] := by unfold loadV; rw [h]; rfl
theorem loadV_ok {p : Shop} {m : Int} (h : inB 0 m (p.mach - 1) = true) : loadV p m = .tuple #[.int .i64 (loadF p m), .int .i64 0] := by unfold loadV; rw [h]; rfl

theorem apiChain_any (s : Sh) (j : Int) (w : World) (hS : ShAt w w.heap.size s) (hvB : validShop s.p = true) :
    Calls Try.prog 27 #[.agg #[.int .i64 s.p.op, .int .i64 s.p.cl, .slice s.aH s.p.hol.length s.cH, .int .i64 s.p.mach, .slice s.aS s.p.setup.length s.cS, .slice s.aJ s.p.jobs.length s.cJ], .int .i64 j] w fun e w' => e = .returned (chainV s.p j) ∧ Below w.heap.size w w' := by
  have hv := valid_facts hvB
  have hf := hv.fits
  have hjn := hv.jobn
  have hk := Blk.new w 25 #[.int .i64 s.p.op, .int .i64 s.p.cl, .slice s.aH s.p.hol.length s.cH, .int .i64 s.p.mach, .slice s.aS s.p.setup.length s.cS, .slice s.aJ s.p.jobs.length s.cJ]
  have hB := (Below.refl w.heap.size w).alloc (Nat.le_refl _) (.cells #[.int .i64 s.p.op, .int .i64 s.p.cl, .slice s.aH s.p.hol.length s.cH, .int .i64 s.p.mach, .slice s.aS s.p.setup.length s.cS, .slice s.aJ s.p.jobs.length s.cJ] 25)
  go_enter Try.func27, Try.ntmps27
  go_wp2_with fail
  generalize w.alloc (.cells #[.int .i64 s.p.op, .int .i64 s.p.cl, .slice s.aH s.p.hol.length s.cH, .int .i64 s.p.mach, .slice s.aS s.p.setup.length s.cS, .slice s.aJ s.p.jobs.length s.cJ] 25) = W at *
  have c0 := hk.cell_ 0 rfl
  have c1 := hk.cell_ 1 rfl
  have c2 := hk.cell_ 2 rfl
  have c3 := hk.cell_ 3 rfl
  have c4 := hk.cell_ 4 rfl
  have c5 := hk.cell_ 5 rfl
  go_wp2_with fail
  refine (valid_any s _ (hS.on hB) hf.h1 hf.h2 hf.h3 hf.h4).mono ?_
  rintro e W ⟨rfl, hb⟩
  clear c0 c1 c2 c3 c4 c5
  replace hk := hk.below hb hk.lt
  replace hB := hB.trans (hb.mono hB.size)
  clear hb
  have c0 := hk.cell_ 0 rfl
  have c1 := hk.cell_ 1 rfl
  have c2 := hk.cell_ 2 rfl
  have c3 := hk.cell_ 3 rfl
  have c4 := hk.cell_ 4 rfl
  have c5 := hk.cell_ 5 rfl
  rw [hvB]
  cases ht : inB 0 j (s.p.jobs.length - 1)
  · go_wp2_with (go_at_call 50; refine (within_any _ _ _ _).mono ?_; rintro e w' ⟨rfl, rfl⟩)
    go_ret2
    exact ⟨ret_eq (chainV_no ht).symm, hB⟩
  · obtain ⟨t1, t2⟩ := inB_iff.1 ht
    go_wp2_with (go_at_call 50; refine (within_any _ _ _ _).mono ?_; rintro e w' ⟨rfl, rfl⟩)
    have HE := hide (chainV_ok ht)
    obtain ⟨n, rfl⟩ : ∃ n : Nat, j = n := ⟨j.toNat, by omega⟩
    obtain ⟨l, hjl⟩ : ∃ l, s.p.jobs[n]? = some l := ⟨_, List.getElem?_eq_getElem (by omega)⟩
    have HJ := hide (jobF_at hjl)
    refine (chain_any s n l _ (hS.on hB) hv hjl).mono ?_
    rintro e W ⟨rfl, hb⟩
    clear c0 c1 c2 c3 c4 c5
    replace hk := hk.below hb hk.lt
    replace hB := hB.trans (hb.mono hB.size)
    clear hb
    have c0 := hk.cell_ 0 rfl
    have c1 := hk.cell_ 1 rfl
    have c2 := hk.cell_ 2 rfl
    have c3 := hk.cell_ 3 rfl
    have c4 := hk.cell_ 4 rfl
    have c5 := hk.cell_ 5 rfl
    clear hjl
    rw [← HJ.out]
    go_wp2_with fail
    go_ret2
    exact ⟨ret_eq HE.out.symm, hB⟩

theorem apiLoad_any (s : Sh) (m : Int) (w : World) (hS : ShAt w w.heap.size s) (hvB : validShop s.p = true) :
    Calls Try.prog 28 #[.agg #[.int .i64 s.p.op, .int .i64 s.p.cl, .slice s.aH s.p.hol.length s.cH, .int .i64 s.p.mach, .slice s.aS s.p.setup.length s.cS, .slice s.aJ s.p.jobs.length s.cJ], .int .i64 m] w fun e w' => e = .returned (loadV s.p m) ∧ Below w.heap.size w w' := by
  have hv := valid_facts hvB
  have hf := hv.fits
  have hm1 := hv.mach1
  have hm6 := hv.mach6
  have hk := Blk.new w 25 #[.int .i64 s.p.op, .int .i64 s.p.cl, .slice s.aH s.p.hol.length s.cH, .int .i64 s.p.mach, .slice s.aS s.p.setup.length s.cS, .slice s.aJ s.p.jobs.length s.cJ]
  have hB := (Below.refl w.heap.size w).alloc (Nat.le_refl _) (.cells #[.int .i64 s.p.op, .int .i64 s.p.cl, .slice s.aH s.p.hol.length s.cH, .int .i64 s.p.mach, .slice s.aS s.p.setup.length s.cS, .slice s.aJ s.p.jobs.length s.cJ] 25)
  go_enter Try.func28, Try.ntmps28
  go_wp2_with fail
  generalize w.alloc (.cells #[.int .i64 s.p.op, .int .i64 s.p.cl, .slice s.aH s.p.hol.length s.cH, .int .i64 s.p.mach, .slice s.aS s.p.setup.length s.cS, .slice s.aJ s.p.jobs.length s.cJ] 25) = W at *
  have c0 := hk.cell_ 0 rfl
  have c1 := hk.cell_ 1 rfl
  have c2 := hk.cell_ 2 rfl
  have c3 := hk.cell_ 3 rfl
  have c4 := hk.cell_ 4 rfl
  have c5 := hk.cell_ 5 rfl
  go_wp2_with fail
  refine (valid_any s _ (hS.on hB) hf.h1 hf.h2 hf.h3 hf.h4).mono ?_
  rintro e W ⟨rfl, hb⟩
  clear c0 c1 c2 c3 c4 c5
  replace hk := hk.below hb hk.lt
  replace hB := hB.trans (hb.mono hB.size)
  clear hb
  have c0 := hk.cell_ 0 rfl
  have c1 := hk.cell_ 1 rfl
  have c2 := hk.cell_ 2 rfl
  have c3 := hk.cell_ 3 rfl
  have c4 := hk.cell_ 4 rfl
  have c5 := hk.cell_ 5 rfl
  rw [hvB]
  cases ht : inB 0 m (s.p.mach - 1)
  · go_wp2_with (go_at_call 50; refine (within_any _ _ _ _).mono ?_; rintro e w' ⟨rfl, rfl⟩)
    go_ret2
    exact ⟨ret_eq (loadV_no ht).symm, hB⟩
  · go_wp2_with (go_at_call 50; refine (within_any _ _ _ _).mono ?_; rintro e w' ⟨rfl, rfl⟩)
    refine (load_any s m _ (hS.on hB) hv).mono ?_
    rintro e W ⟨rfl, hb⟩
    clear c0 c1 c2 c3 c4 c5
    replace hk := hk.below hb hk.lt
    replace hB := hB.trans (hb.mono hB.size)
    clear hb
    have c0 := hk.cell_ 0 rfl
    have c1 := hk.cell_ 1 rfl
    have c2 := hk.cell_ 2 rfl
    have c3 := hk.cell_ 3 rfl
    have c4 := hk.cell_ 4 rfl
    have c5 := hk.cell_ 5 rfl
    go_wp2_with fail
    go_ret2
    exact ⟨ret_eq (loadV_ok ht).symm, hB⟩
end Go.Proofs.Ytcpnfcnobnjhdaa

/- Plans: shaped, list, and the small functions of steps with their starts: the walks. -/
namespace Go.Proofs.Ytcpnfcnobnjhdaa
open Go.RowKit
theorem plan_at {w : World} {B : Nat} {A : Option Addr} {pl : List (List Int)} {k : Nat} {l : List Int} (h : Plan w B A pl) (hk : pl[k]? = some l) :
    ∃ b off A' c', A = some ⟨b, off, none⟩ ∧ b < B ∧ w.cell? ⟨b, off + k, none⟩ = some (.slice A' l.length c') ∧ Slc intEnc 1 w B A' l := h k l hk
theorem int_at {w : World} {B : Nat} {A : Option Addr} {xs : List Int} {k : Nat} {x : Int} (h : Slc intEnc 1 w B A xs) (hk : xs[k]? = some x) :
    ∃ b off, A = some ⟨b, off, none⟩ ∧ b < B ∧ w.cell? ⟨b, off + k, none⟩ = some (.int .i64 x) := h.at1 hk rfl

/-- ContainsFunc(l, not within) -/
theorem shaped1_any (t : Int) (w : World) : Calls Try.prog 85 #[.int .i64 t] w fun e w' => e = .returned (.bool (!inB 0 t 100000000)) ∧ w = w' := by
  go_enter Try.func85, Try.ntmps85
  go_wp2_with fail
  refine (within_any _ _ _ _).mono ?_
  rintro e w' ⟨rfl, rfl⟩
  go_wp2_with fail
  go_ret
  exact ⟨rfl, rfl⟩
theorem indexInt_any (A : Option Addr) (c : Nat) (l : List Int) (w : World) (hlen : l.length ≤ 9223372036854775807) (hS : Slc intEnc 1 w w.heap.size A l) :
    Calls Try.prog 91 #[.slice A l.length c, .func (.func 85) #[] #[]] w (IxPost (!l.all fun t => inB 0 t 100000000) w) := by
  go_enter Try.func91, Try.ntmps91
  go_wp2
  go_loopw [8] (fun i wr => ∃ k : Nat, k ≤ l.length ∧ i = .int .i64 k ∧ (l.all fun t => inB 0 t 100000000) = (l.drop k).all (fun t => inB 0 t 100000000) ∧ Below w.heap.size w wr) (fun i _ => l.length - (intOf i).toNat)
  case atStart => exact ⟨0, Nat.zero_le _, rfl, rfl, Below.refl _ _⟩
  case round =>
    obtain ⟨k, hk, rfl, hs, hbel⟩ := hrel
    have HS := hide hs
    clear hs
    by_cases hlt : k < l.length
    · obtain ⟨x, b, off, hx, hA, hb, e0⟩ := ints_at' (hS.below hbel) hlt
      subst hA
      have HX := hide hx
      clear hx
      cases hok : inB 0 x 100000000
      all_goals
        go_wp2_with fail
        refine (shaped1_any x _).mono ?_
        rintro e w2 ⟨rfl, rfl⟩
        rw [hok]
        go_wp2
      · go_ret
        exact ⟨k, rfl, by rw [HS.out, all_drop HX.out, hok]; simp, hbel⟩
      · go_roundw
        case rel => exact ⟨k + 1, by omega, by go_num, by rw [HS.out, all_drop HX.out, hok]; rfl, hbel⟩
        case measure => simp [intOf]; omega
    · obtain rfl : k = l.length := by omega
      go_wp2
      go_ret
      exact ⟨-1, rfl, by rw [HS.out, nomore]; rfl, hbel⟩
theorem containsInt_any (A : Option Addr) (c : Nat) (l : List Int) (w : World) (hlen : l.length ≤ 9223372036854775807) (hS : Slc intEnc 1 w w.heap.size A l) :
    Calls Try.prog 84 #[.slice A l.length c, .func (.func 85) #[] #[]] w fun e w' => e = .returned (.bool (!l.all fun t => inB 0 t 100000000)) ∧ Below w.heap.size w w' := by
  go_enter Try.func84, Try.ntmps84
  go_wp2_with fail
  refine (indexInt_any A c l _ hlen hS).mono ?_
  rintro e w2 ⟨r, rfl, hr, hb2⟩
  have HR := hide hr
  clear hr
  go_wp2
  go_ret
  exact ⟨ret_bool HR.out, hb2⟩

/-- no slice is longer than a slice can be -/
structure PFits (pl : List (List Int)) : Prop where
  h1 : pl.length ≤ 9223372036854775807
  h2 : ∀ l ∈ pl, l.length ≤ 9223372036854775807
set_option maxRecDepth 100000 in
theorem shaped_any (s : Sh) (A : Option Addr) (c : Nat) (pl : List (List Int)) (w : World) (hS : ShAt w w.heap.size s) (hv : VShop s.p) (hP : Plan w w.heap.size A pl) (hf : PFits pl) :
    Calls Try.prog 69 #[.agg #[.int .i64 s.p.op, .int .i64 s.p.cl, .slice s.aH s.p.hol.length s.cH, .int .i64 s.p.mach, .slice s.aS s.p.setup.length s.cS, .slice s.aJ s.p.jobs.length s.cJ], .slice A pl.length c] w fun e w' => e = .returned (.bool (shapedB s.p pl)) ∧ Below w.heap.size w w' := by
  have hjn := hv.jobn
  have hf1 := hf.h1
  have HE : Hid (shapedB s.p pl = (decide (pl.length = s.p.jobs.length) && shapeL (pl.drop 0) (s.p.jobs.drop 0))) := rfl
  obtain ⟨p, aH, cH, aS, cS, aJ, cJ⟩ := s
  dsimp only at *
  have hk := Blk.new w 25 #[.int .i64 p.op, .int .i64 p.cl, .slice aH p.hol.length cH, .int .i64 p.mach, .slice aS p.setup.length cS, .slice aJ p.jobs.length cJ]
  have hB := (Below.refl w.heap.size w).alloc (Nat.le_refl _) (.cells #[.int .i64 p.op, .int .i64 p.cl, .slice aH p.hol.length cH, .int .i64 p.mach, .slice aS p.setup.length cS, .slice aJ p.jobs.length cJ] 25)
  by_cases hne : pl.length = p.jobs.length
  · have hneb : ((pl.length : Int) == (p.jobs.length : Int)) = true := by simp; omega
    have hneb2 : ((pl.length : Int) != (p.jobs.length : Int)) = false := by simp; omega
    have hne' : pl.length ≤ p.jobs.length ∧ p.jobs.length ≤ pl.length := by omega
    have HNE := hide hne
    clear hne
    go_enter Try.func69, Try.ntmps69
    go_wp2_with fail
    generalize w.alloc (.cells #[.int .i64 p.op, .int .i64 p.cl, .slice aH p.hol.length cH, .int .i64 p.mach, .slice aS p.setup.length cS, .slice aJ p.jobs.length cJ] 25) = W at *
    go_loopw [15] (fun x W => ∃ i : Nat, x = .int .i64 i ∧ i ≤ pl.length ∧ Hid (shapedB p pl = shapeL (pl.drop i) (p.jobs.drop i)) ∧ Blk W w.heap.size 25 #[.int .i64 p.op, .int .i64 p.cl, .slice aH p.hol.length cH, .int .i64 p.mach, .slice aS p.setup.length cS, .slice aJ p.jobs.length cJ] ∧ Below w.heap.size w W) (fun x _ => pl.length - (intOf x).toNat)
    case atStart => exact ⟨0, rfl, Nat.zero_le _, (by show _ = _; rw [HE.out, HNE.out]; simp), hk, hB⟩
    case round =>
      clear hk hB
      obtain ⟨W, rfl⟩ : ∃ W : World, W = wr := ⟨_, rfl⟩
      obtain ⟨i, rfl, hi, HS, hk, hB⟩ := hrel
      have c5 := hk.cell_ 5 rfl
      by_cases hlt : i < pl.length
      · obtain ⟨l, hl⟩ : ∃ l, pl[i]? = some l := ⟨_, List.getElem?_eq_getElem hlt⟩
        obtain ⟨st, hst⟩ : ∃ st, p.jobs[i]? = some st := ⟨_, List.getElem?_eq_getElem (by omega)⟩
        have hll := hf.h2 l (List.mem_of_getElem? hl)
        have hsl := (hv.steps i st hst).1
        obtain ⟨b, off, A', c', rfl, hb0, hc, hSl⟩ := plan_at (hP.on hB) hl
        obtain ⟨b2, off2, A2, c2, hA2, hb2, hc2, _⟩ := job_at (hS.on hB).jobs hst
        dsimp only at hA2
        subst hA2
        have HST := hide (shapeL_step hl hst)
        clear hl hst
        by_cases hlen : l.length = st.length
        · have hlb : ((l.length : Int) == (st.length : Int)) = true := by simp; omega
          have hlb2 : ((l.length : Int) != (st.length : Int)) = false := by simp; omega
          have HLEN := hide hlen
          clear hlen
          go_wp2_with fail
          refine (containsInt_any A' c' l _ (by omega) hSl).mono ?_
          rintro e W ⟨rfl, hb⟩
          clear c5
          replace hk := hk.below hb hk.lt
          replace hB := hB.trans (hb.mono hB.size)
          clear hb
          have c5 := hk.cell_ 5 rfl
          cases hall : l.all fun t => inB 0 t 100000000
          · go_wp2_with fail
            go_ret
            exact ⟨ret_bool (by rw [HS.out, HST.out, hall, HLEN.out]; simp), hB⟩
          · go_wp2_with fail
            go_roundw
            case rel => exact ⟨i + 1, by go_num, by omega, (by show _ = _; rw [HS.out, HST.out, hall, HLEN.out]; simp), hk, hB⟩
            case measure => simp [intOf]; omega
        · have hlb : ((l.length : Int) == (st.length : Int)) = false := by simp; omega
          have hlb2 : ((l.length : Int) != (st.length : Int)) = true := by simp; omega
          have HLEN := hide hlen
          clear hlen
          go_wp2_with fail
          go_ret
          exact ⟨ret_bool (by rw [HS.out, HST.out, decide_eq_false HLEN.out]; rfl), hB⟩
      · obtain rfl : i = pl.length := by omega
        go_wp2_with fail
        go_ret
        exact ⟨ret_bool (by rw [HS.out, nomore]; simp [shapeL]), hB⟩
  · have hneb : ((pl.length : Int) == (p.jobs.length : Int)) = false := by simp; omega
    have hneb2 : ((pl.length : Int) != (p.jobs.length : Int)) = true := by simp; omega
    have HNE := hide hne
    clear hne
    go_enter Try.func69, Try.ntmps69
    go_wp2_with fail
    go_ret
    exact ⟨ret_bool (by rw [HE.out, decide_eq_false HNE.out]; rfl), hB⟩

theorem end_any (a : At) (w : World) (h : -1000000000000 ≤ a.t ∧ a.t ≤ 1000000000000) (h2 : 0 ≤ a.x.mi ∧ a.x.mi ≤ 1000000) :
    Calls Try.prog 68 #[.agg #[.int .i64 a.j, .int .i64 a.k, .int .i64 a.t, .int .i64 a.x.m, .int .i64 a.x.mi, .int .i64 a.x.c, .int .i64 a.x.d]] w fun e w' => e = .returned (.int .i64 a.end_) ∧ Below w.heap.size w w' := by
  have hB := (Below.refl w.heap.size w).alloc (Nat.le_refl _) (.cells #[.int .i64 a.j, .int .i64 a.k, .int .i64 a.t, .int .i64 a.x.m, .int .i64 a.x.mi, .int .i64 a.x.c, .int .i64 a.x.d] 91)
  go_enter Try.func68, Try.ntmps68
  go_wp2_with fail
  go_ret
  exact ⟨rfl, hB⟩
theorem dry_any (a : At) (w : World) (h : -1000000000000 ≤ a.t ∧ a.t ≤ 1000000000000) (h2 : 0 ≤ a.x.mi ∧ a.x.mi ≤ 1000000) (h3 : 0 ≤ a.x.d ∧ a.x.d ≤ 1000000) :
    Calls Try.prog 78 #[.agg #[.int .i64 a.j, .int .i64 a.k, .int .i64 a.t, .int .i64 a.x.m, .int .i64 a.x.mi, .int .i64 a.x.c, .int .i64 a.x.d]] w fun e w' => e = .returned (.int .i64 a.dry) ∧ Below w.heap.size w w' := by
  have hk := Blk.new w 91 #[.int .i64 a.j, .int .i64 a.k, .int .i64 a.t, .int .i64 a.x.m, .int .i64 a.x.mi, .int .i64 a.x.c, .int .i64 a.x.d]
  have hB := (Below.refl w.heap.size w).alloc (Nat.le_refl _) (.cells #[.int .i64 a.j, .int .i64 a.k, .int .i64 a.t, .int .i64 a.x.m, .int .i64 a.x.mi, .int .i64 a.x.c, .int .i64 a.x.d] 91)
  go_enter Try.func78, Try.ntmps78
  go_wp2_with fail
  generalize w.alloc (.cells #[.int .i64 a.j, .int .i64 a.k, .int .i64 a.t, .int .i64 a.x.m, .int .i64 a.x.mi, .int .i64 a.x.c, .int .i64 a.x.d] 91) = W at *
  have c0 := hk.cell_ 0 rfl
  have c1 := hk.cell_ 1 rfl
  have c2 := hk.cell_ 2 rfl
  have c3 := hk.cell_ 3 rfl
  have c4 := hk.cell_ 4 rfl
  have c5 := hk.cell_ 5 rfl
  have c6 := hk.cell_ 6 rfl
  have e1 : IntKind.i64.wrap (a.end_ + a.x.d) = a.dry := by unfold At.end_ At.dry; exact IntWalk.i64_in _ (by omega)
  go_wp2_with fail
  refine wp_region_quiet (C := fun w' => ∃ u : Since W, w' = u.w) (by kernel_rfl) (by kernel_rfl) (Since.start W) ?_
  dsimp only
  have y_c0 := Since.cell c0
  have y_c1 := Since.cell c1
  have y_c2 := Since.cell c2
  have y_c3 := Since.cell c3
  have y_c4 := Since.cell c4
  have y_c5 := Since.cell c5
  have y_c6 := Since.cell c6
  clear c0 c1 c2 c3 c4 c5 c6
  repeat (go_big_quiet_step ((go_at_call 68; exact Since.calls (end_any a _ h h2))))
  refine wpQuiet_nil ?_
  rintro W ⟨⟨_, hb⟩, rfl⟩
  try dsimp only at hb ⊢
  clear y_c0 y_c1 y_c2 y_c3 y_c4 y_c5 y_c6
  replace hk := hk.below hb hk.lt
  replace hB := hB.trans (hb.mono hB.size)
  clear hb
  have c0 := hk.cell_ 0 rfl
  have c1 := hk.cell_ 1 rfl
  have c2 := hk.cell_ 2 rfl
  have c3 := hk.cell_ 3 rfl
  have c4 := hk.cell_ 4 rfl
  have c5 := hk.cell_ 5 rfl
  have c6 := hk.cell_ 6 rfl
  go_wp2_with fail
  go_ret
  exact ⟨rfl, hB⟩
/-- what is asked of a step with its start here -/
structure AtFit (p : Shop) (a : At) : Prop where
  t0 : 0 ≤ a.t
  t1 : a.t ≤ 1000000000
  mi0 : 0 ≤ a.x.mi
  mi1 : a.x.mi ≤ 1440
  d0 : 0 ≤ a.x.d
  d1 : a.x.d ≤ 10000
  m0 : 0 ≤ a.x.m
  m1 : a.x.m < p.mach
theorem AtOk.fit {p : Shop} (hv : VShop p) {pl : List (List Int)} {a : At} (h : AtOk p pl a) : AtFit p a := by
  have := hv.op0
  have := hv.cl
  have := h.mi0
  have := h.mi1
  have := h.t1
  exact ⟨h.t0, by omega, by omega, by omega, h.d0, h.d1, h.m0, h.m1⟩
theorem setup_get {p : Shop} (hv : VShop p) {m : Int} (h0 : 0 ≤ m) (h1 : m < p.mach) : p.setup[m.toNat]? = some (setupOf p m) ∧ 0 ≤ setupOf p m ∧ setupOf p m ≤ 1000 := by
  have hl := hv.setn
  have hlt : m.toNat < p.setup.length := by omega
  have h2 : p.setup[m.toNat]? = some (setupOf p m) := by unfold setupOf; rw [List.getD_eq_getElem?_getD, List.getElem?_eq_getElem hlt]; rfl
  exact ⟨h2, hv.setup _ _ h2⟩
set_option maxRecDepth 100000 in
theorem room_any (s : Sh) (b : At) (c : Int) (w : World) (hS : ShAt w w.heap.size s) (hv : VShop s.p) (hb : AtFit s.p b) :
    Calls Try.prog 77 #[.agg #[.int .i64 s.p.op, .int .i64 s.p.cl, .slice s.aH s.p.hol.length s.cH, .int .i64 s.p.mach, .slice s.aS s.p.setup.length s.cS, .slice s.aJ s.p.jobs.length s.cJ], .agg #[.int .i64 b.j, .int .i64 b.k, .int .i64 b.t, .int .i64 b.x.m, .int .i64 b.x.mi, .int .i64 b.x.c, .int .i64 b.x.d], .int .i64 c] w fun e w' => e = .returned (.int .i64 (roomF s.p b c)) ∧ Below w.heap.size w w' := by
  obtain ⟨t0, t1, mi0, mi1, d0, d1, m0, m1⟩ := hb
  obtain ⟨hsu, hs0, hs1⟩ := setup_get hv m0 m1
  obtain ⟨bs, offs, hA, hbs, hcs⟩ := int_at hS.setup hsu
  have hln : b.x.m.toNat < s.p.setup.length := (List.getElem?_eq_some_iff.1 hsu).1
  have HR : Hid (roomF s.p b c = if b.x.c = c then b.end_ else b.end_ + setupOf s.p b.x.m) := rfl
  obtain ⟨p, aH, cH, aS, cS, aJ, cJ⟩ := s
  dsimp only at *
  subst hA
  generalize setupOf p b.x.m = S at *
  have hln2 : b.x.m < (p.setup.length : Int) := by omega
  clear hsu
  have hk := Blk.new w 25 #[.int .i64 p.op, .int .i64 p.cl, .slice aH p.hol.length cH, .int .i64 p.mach, .slice (some ⟨bs, offs, none⟩) p.setup.length cS, .slice aJ p.jobs.length cJ]
  have hB := (Below.refl w.heap.size w).alloc (Nat.le_refl _) (.cells #[.int .i64 p.op, .int .i64 p.cl, .slice aH p.hol.length cH, .int .i64 p.mach, .slice (some ⟨bs, offs, none⟩) p.setup.length cS, .slice aJ p.jobs.length cJ] 25)
  have hsz_w : (w.alloc (.cells #[.int .i64 p.op, .int .i64 p.cl, .slice aH p.hol.length cH, .int .i64 p.mach, .slice (some ⟨bs, offs, none⟩) p.setup.length cS, .slice aJ p.jobs.length cJ] 25)).heap.size = w.heap.size + 1 := by simp
  by_cases hcc : b.x.c = c
  all_goals
    first | have hcb : (b.x.c == c) = true := by simpa using hcc | have hcb : (b.x.c == c) = false := by simpa using hcc
    have HCC := hide hcc
    clear hcc
    go_enter Try.func77, Try.ntmps77
    go_wp2_with fail
    generalize w.alloc (.cells #[.int .i64 p.op, .int .i64 p.cl, .slice aH p.hol.length cH, .int .i64 p.mach, .slice (some ⟨bs, offs, none⟩) p.setup.length cS, .slice aJ p.jobs.length cJ] 25) = W at *
    go_wp2_with fail
    have ha := Blk.new W 91 #[.int .i64 b.j, .int .i64 b.k, .int .i64 b.t, .int .i64 b.x.m, .int .i64 b.x.mi, .int .i64 b.x.c, .int .i64 b.x.d]
    replace hk := hk.alloc (.cells #[.int .i64 b.j, .int .i64 b.k, .int .i64 b.t, .int .i64 b.x.m, .int .i64 b.x.mi, .int .i64 b.x.c, .int .i64 b.x.d] 91)
    rw [hsz_w] at ha
    replace hB := hB.alloc hB.size (.cells #[.int .i64 b.j, .int .i64 b.k, .int .i64 b.t, .int .i64 b.x.m, .int .i64 b.x.mi, .int .i64 b.x.c, .int .i64 b.x.d] 91)
    generalize W.alloc (.cells #[.int .i64 b.j, .int .i64 b.k, .int .i64 b.t, .int .i64 b.x.m, .int .i64 b.x.mi, .int .i64 b.x.c, .int .i64 b.x.d] 91) = W at *
    have c0 := hk.cell_ 0 rfl
    have c1 := hk.cell_ 1 rfl
    have c2 := hk.cell_ 2 rfl
    have c3 := hk.cell_ 3 rfl
    have c4 := hk.cell_ 4 rfl
    have c5 := hk.cell_ 5 rfl
    have a0 := ha.cell_ 0 rfl
    have a1 := ha.cell_ 1 rfl
    have a2 := ha.cell_ 2 rfl
    have a3 := ha.cell_ 3 rfl
    have a4 := ha.cell_ 4 rfl
    have a5 := ha.cell_ 5 rfl
    have a6 := ha.cell_ 6 rfl
    clear hsz_w
    replace hcs := (hB.cell (p := ⟨bs, offs + b.x.m.toNat, none⟩) hbs).trans hcs
  · skip
    go_wp2_with fail
    refine (end_any b _ ⟨by omega, by omega⟩ ⟨mi0, by omega⟩).mono ?_
    rintro e W ⟨rfl, hb⟩
    clear c0 c1 c2 c3 c4 c5 a0 a1 a2 a3 a4 a5 a6
    replace hk := hk.below hb hk.lt
    replace ha := ha.below hb ha.lt
    replace hB := hB.trans (hb.mono hB.size)
    clear hb
    have c0 := hk.cell_ 0 rfl
    have c1 := hk.cell_ 1 rfl
    have c2 := hk.cell_ 2 rfl
    have c3 := hk.cell_ 3 rfl
    have c4 := hk.cell_ 4 rfl
    have c5 := hk.cell_ 5 rfl
    have a0 := ha.cell_ 0 rfl
    have a1 := ha.cell_ 1 rfl
    have a2 := ha.cell_ 2 rfl
    have a3 := ha.cell_ 3 rfl
    have a4 := ha.cell_ 4 rfl
    have a5 := ha.cell_ 5 rfl
    have a6 := ha.cell_ 6 rfl
    go_wp2_with fail
    go_ret
    exact ⟨ret_int (by rw [HR.out, if_pos HCC.out]), hB⟩
  · skip
    have e1 : IntKind.i64.wrap (b.end_ + S) = b.end_ + S := by unfold At.end_; exact IntWalk.i64_in _ (by omega)
    go_wp2_with fail
    refine wp_region_quiet (C := fun w' => ∃ u : Since W, w' = u.w) (by kernel_rfl) (by kernel_rfl) (Since.start W) ?_
    dsimp only
    have y_c0 := Since.cell c0
    have y_c1 := Since.cell c1
    have y_c2 := Since.cell c2
    have y_c3 := Since.cell c3
    have y_c4 := Since.cell c4
    have y_c5 := Since.cell c5
    have y_a0 := Since.cell a0
    have y_a1 := Since.cell a1
    have y_a2 := Since.cell a2
    have y_a3 := Since.cell a3
    have y_a4 := Since.cell a4
    have y_a5 := Since.cell a5
    have y_a6 := Since.cell a6
    have y_hcs := Since.cell hcs
    clear c0 c1 c2 c3 c4 c5 a0 a1 a2 a3 a4 a5 a6
    repeat (go_big_quiet_step ((go_at_call 68; exact Since.calls (end_any b _ ⟨by omega, by omega⟩ ⟨mi0, by omega⟩))))
    refine wpQuiet_nil ?_
    rintro W ⟨⟨_, hb⟩, rfl⟩
    try dsimp only at hb ⊢
    replace hcs : W.cell? _ = _ := y_hcs ⟨W, hb⟩
    clear y_c0 y_c1 y_c2 y_c3 y_c4 y_c5 y_a0 y_a1 y_a2 y_a3 y_a4 y_a5 y_a6 y_hcs
    replace hk := hk.below hb hk.lt
    replace ha := ha.below hb ha.lt
    replace hB := hB.trans (hb.mono hB.size)
    clear hb
    have c0 := hk.cell_ 0 rfl
    have c1 := hk.cell_ 1 rfl
    have c2 := hk.cell_ 2 rfl
    have c3 := hk.cell_ 3 rfl
    have c4 := hk.cell_ 4 rfl
    have c5 := hk.cell_ 5 rfl
    have a0 := ha.cell_ 0 rfl
    have a1 := ha.cell_ 1 rfl
    have a2 := ha.cell_ 2 rfl
    have a3 := ha.cell_ 3 rfl
    have a4 := ha.cell_ 4 rfl
    have a5 := ha.cell_ 5 rfl
    have a6 := ha.cell_ 6 rfl
    go_wp2_with fail
    go_ret
    exact ⟨ret_int (by rw [HR.out, if_neg HCC.out]), hB⟩

set_option maxRecDepth 100000 in
theorem together_any (s : Sh) (a b : At) (w : World) (hS : ShAt w w.heap.size s) (hv : VShop s.p) (hfa : AtFit s.p a) (hfb : AtFit s.p b) :
    Calls Try.prog 81 #[.agg #[.int .i64 s.p.op, .int .i64 s.p.cl, .slice s.aH s.p.hol.length s.cH, .int .i64 s.p.mach, .slice s.aS s.p.setup.length s.cS, .slice s.aJ s.p.jobs.length s.cJ], .agg #[.int .i64 a.j, .int .i64 a.k, .int .i64 a.t, .int .i64 a.x.m, .int .i64 a.x.mi, .int .i64 a.x.c, .int .i64 a.x.d], .agg #[.int .i64 b.j, .int .i64 b.k, .int .i64 b.t, .int .i64 b.x.m, .int .i64 b.x.mi, .int .i64 b.x.c, .int .i64 b.x.d]] w fun e w' => e = .returned (.bool (togB s.p a b)) ∧ Below w.heap.size w w' := by
  have HR : Hid (togB s.p a b = (!decide (a.x.m = b.x.m) || decide (roomF s.p a b.x.c ≤ b.t) || decide (roomF s.p b a.x.c ≤ a.t))) := rfl
  have HFA := hide hfa
  have HFB := hide hfb
  clear hfa hfb
  have hk := Blk.new w 25 #[.int .i64 s.p.op, .int .i64 s.p.cl, .slice s.aH s.p.hol.length s.cH, .int .i64 s.p.mach, .slice s.aS s.p.setup.length s.cS, .slice s.aJ s.p.jobs.length s.cJ]
  have hB := (Below.refl w.heap.size w).alloc (Nat.le_refl _) (.cells #[.int .i64 s.p.op, .int .i64 s.p.cl, .slice s.aH s.p.hol.length s.cH, .int .i64 s.p.mach, .slice s.aS s.p.setup.length s.cS, .slice s.aJ s.p.jobs.length s.cJ] 25)
  have hsz_w : (w.alloc (.cells #[.int .i64 s.p.op, .int .i64 s.p.cl, .slice s.aH s.p.hol.length s.cH, .int .i64 s.p.mach, .slice s.aS s.p.setup.length s.cS, .slice s.aJ s.p.jobs.length s.cJ] 25)).heap.size = w.heap.size + 1 := by simp
  go_enter Try.func81, Try.ntmps81
  go_wp2_with fail
  generalize w.alloc (.cells #[.int .i64 s.p.op, .int .i64 s.p.cl, .slice s.aH s.p.hol.length s.cH, .int .i64 s.p.mach, .slice s.aS s.p.setup.length s.cS, .slice s.aJ s.p.jobs.length s.cJ] 25) = W at *
  go_wp2_with fail
  have ha := Blk.new W 91 #[.int .i64 a.j, .int .i64 a.k, .int .i64 a.t, .int .i64 a.x.m, .int .i64 a.x.mi, .int .i64 a.x.c, .int .i64 a.x.d]
  replace hk := hk.alloc (.cells #[.int .i64 a.j, .int .i64 a.k, .int .i64 a.t, .int .i64 a.x.m, .int .i64 a.x.mi, .int .i64 a.x.c, .int .i64 a.x.d] 91)
  have hsz_2 := (show (W.alloc (.cells #[.int .i64 a.j, .int .i64 a.k, .int .i64 a.t, .int .i64 a.x.m, .int .i64 a.x.mi, .int .i64 a.x.c, .int .i64 a.x.d] 91)).heap.size = W.heap.size + 1 by simp)
  rw [hsz_w] at hsz_2
  rw [hsz_w] at ha
  replace hB := hB.alloc hB.size (.cells #[.int .i64 a.j, .int .i64 a.k, .int .i64 a.t, .int .i64 a.x.m, .int .i64 a.x.mi, .int .i64 a.x.c, .int .i64 a.x.d] 91)
  generalize W.alloc (.cells #[.int .i64 a.j, .int .i64 a.k, .int .i64 a.t, .int .i64 a.x.m, .int .i64 a.x.mi, .int .i64 a.x.c, .int .i64 a.x.d] 91) = W at *
  have c0 := hk.cell_ 0 rfl
  have c1 := hk.cell_ 1 rfl
  have c2 := hk.cell_ 2 rfl
  have c3 := hk.cell_ 3 rfl
  have c4 := hk.cell_ 4 rfl
  have c5 := hk.cell_ 5 rfl
  have a0 := ha.cell_ 0 rfl
  have a1 := ha.cell_ 1 rfl
  have a2 := ha.cell_ 2 rfl
  have a3 := ha.cell_ 3 rfl
  have a4 := ha.cell_ 4 rfl
  have a5 := ha.cell_ 5 rfl
  have a6 := ha.cell_ 6 rfl
  have q_c0 := (hk.alloc (.cells #[.int .i64 b.j, .int .i64 b.k, .int .i64 b.t, .int .i64 b.x.m, .int .i64 b.x.mi, .int .i64 b.x.c, .int .i64 b.x.d] 91)).cell_ 0 rfl
  have q_c1 := (hk.alloc (.cells #[.int .i64 b.j, .int .i64 b.k, .int .i64 b.t, .int .i64 b.x.m, .int .i64 b.x.mi, .int .i64 b.x.c, .int .i64 b.x.d] 91)).cell_ 1 rfl
  have q_c2 := (hk.alloc (.cells #[.int .i64 b.j, .int .i64 b.k, .int .i64 b.t, .int .i64 b.x.m, .int .i64 b.x.mi, .int .i64 b.x.c, .int .i64 b.x.d] 91)).cell_ 2 rfl
  have q_c3 := (hk.alloc (.cells #[.int .i64 b.j, .int .i64 b.k, .int .i64 b.t, .int .i64 b.x.m, .int .i64 b.x.mi, .int .i64 b.x.c, .int .i64 b.x.d] 91)).cell_ 3 rfl
  have q_c4 := (hk.alloc (.cells #[.int .i64 b.j, .int .i64 b.k, .int .i64 b.t, .int .i64 b.x.m, .int .i64 b.x.mi, .int .i64 b.x.c, .int .i64 b.x.d] 91)).cell_ 4 rfl
  have q_c5 := (hk.alloc (.cells #[.int .i64 b.j, .int .i64 b.k, .int .i64 b.t, .int .i64 b.x.m, .int .i64 b.x.mi, .int .i64 b.x.c, .int .i64 b.x.d] 91)).cell_ 5 rfl
  have q_a0 := (ha.alloc (.cells #[.int .i64 b.j, .int .i64 b.k, .int .i64 b.t, .int .i64 b.x.m, .int .i64 b.x.mi, .int .i64 b.x.c, .int .i64 b.x.d] 91)).cell_ 0 rfl
  have q_a1 := (ha.alloc (.cells #[.int .i64 b.j, .int .i64 b.k, .int .i64 b.t, .int .i64 b.x.m, .int .i64 b.x.mi, .int .i64 b.x.c, .int .i64 b.x.d] 91)).cell_ 1 rfl
  have q_a2 := (ha.alloc (.cells #[.int .i64 b.j, .int .i64 b.k, .int .i64 b.t, .int .i64 b.x.m, .int .i64 b.x.mi, .int .i64 b.x.c, .int .i64 b.x.d] 91)).cell_ 2 rfl
  have q_a3 := (ha.alloc (.cells #[.int .i64 b.j, .int .i64 b.k, .int .i64 b.t, .int .i64 b.x.m, .int .i64 b.x.mi, .int .i64 b.x.c, .int .i64 b.x.d] 91)).cell_ 3 rfl
  have q_a4 := (ha.alloc (.cells #[.int .i64 b.j, .int .i64 b.k, .int .i64 b.t, .int .i64 b.x.m, .int .i64 b.x.mi, .int .i64 b.x.c, .int .i64 b.x.d] 91)).cell_ 4 rfl
  have q_a5 := (ha.alloc (.cells #[.int .i64 b.j, .int .i64 b.k, .int .i64 b.t, .int .i64 b.x.m, .int .i64 b.x.mi, .int .i64 b.x.c, .int .i64 b.x.d] 91)).cell_ 5 rfl
  have q_a6 := (ha.alloc (.cells #[.int .i64 b.j, .int .i64 b.k, .int .i64 b.t, .int .i64 b.x.m, .int .i64 b.x.mi, .int .i64 b.x.c, .int .i64 b.x.d] 91)).cell_ 6 rfl
  go_wp2_with fail
  clear q_c0 q_c1 q_c2 q_c3 q_c4 q_c5 q_a0 q_a1 q_a2 q_a3 q_a4 q_a5 q_a6
  clear c0 c1 c2 c3 c4 c5 a0 a1 a2 a3 a4 a5 a6
  have hy := Blk.new W 91 #[.int .i64 b.j, .int .i64 b.k, .int .i64 b.t, .int .i64 b.x.m, .int .i64 b.x.mi, .int .i64 b.x.c, .int .i64 b.x.d]
  replace hk := hk.alloc (.cells #[.int .i64 b.j, .int .i64 b.k, .int .i64 b.t, .int .i64 b.x.m, .int .i64 b.x.mi, .int .i64 b.x.c, .int .i64 b.x.d] 91)
  replace ha := ha.alloc (.cells #[.int .i64 b.j, .int .i64 b.k, .int .i64 b.t, .int .i64 b.x.m, .int .i64 b.x.mi, .int .i64 b.x.c, .int .i64 b.x.d] 91)
  rw [hsz_2] at hy
  replace hB := hB.alloc hB.size (.cells #[.int .i64 b.j, .int .i64 b.k, .int .i64 b.t, .int .i64 b.x.m, .int .i64 b.x.mi, .int .i64 b.x.c, .int .i64 b.x.d] 91)
  generalize W.alloc (.cells #[.int .i64 b.j, .int .i64 b.k, .int .i64 b.t, .int .i64 b.x.m, .int .i64 b.x.mi, .int .i64 b.x.c, .int .i64 b.x.d] 91) = W at *
  have c0 := hk.cell_ 0 rfl
  have c1 := hk.cell_ 1 rfl
  have c2 := hk.cell_ 2 rfl
  have c3 := hk.cell_ 3 rfl
  have c4 := hk.cell_ 4 rfl
  have c5 := hk.cell_ 5 rfl
  have a0 := ha.cell_ 0 rfl
  have a1 := ha.cell_ 1 rfl
  have a2 := ha.cell_ 2 rfl
  have a3 := ha.cell_ 3 rfl
  have a4 := ha.cell_ 4 rfl
  have a5 := ha.cell_ 5 rfl
  have a6 := ha.cell_ 6 rfl
  have b0 := hy.cell_ 0 rfl
  have b1 := hy.cell_ 1 rfl
  have b2 := hy.cell_ 2 rfl
  have b3 := hy.cell_ 3 rfl
  have b4 := hy.cell_ 4 rfl
  have b5 := hy.cell_ 5 rfl
  have b6 := hy.cell_ 6 rfl
  clear hsz_w hsz_2
  by_cases hm : a.x.m = b.x.m
  · have hm1 : (a.x.m != b.x.m) = false := by simpa using hm
    have hm2 : (a.x.m == b.x.m) = true := by simpa using hm
    have HM := hide hm
    clear hm
    by_cases hr : roomF s.p a b.x.c ≤ b.t
    · have hr1 : decide (roomF s.p a b.x.c ≤ b.t) = true := decide_eq_true hr
      have HSW := hS.on hB
      go_wp2_with fail
      refine wp_region_quiet (C := fun w' => ∃ u : Since W, w' = u.w) (by kernel_rfl) (by kernel_rfl) (Since.start W) ?_
      dsimp only
      have y_c0 := Since.cell c0
      have y_c1 := Since.cell c1
      have y_c2 := Since.cell c2
      have y_c3 := Since.cell c3
      have y_c4 := Since.cell c4
      have y_c5 := Since.cell c5
      have y_a0 := Since.cell a0
      have y_a1 := Since.cell a1
      have y_a2 := Since.cell a2
      have y_a3 := Since.cell a3
      have y_a4 := Since.cell a4
      have y_a5 := Since.cell a5
      have y_a6 := Since.cell a6
      have y_b0 := Since.cell b0
      have y_b1 := Since.cell b1
      have y_b2 := Since.cell b2
      have y_b3 := Since.cell b3
      have y_b4 := Since.cell b4
      have y_b5 := Since.cell b5
      have y_b6 := Since.cell b6
      clear c0 c1 c2 c3 c4 c5 a0 a1 a2 a3 a4 a5 a6 b0 b1 b2 b3 b4 b5 b6
      repeat (go_big_quiet_step ((go_at_call 77; exact Since.calls (room_any s _ _ _ (HSW.on (Since.h _)) hv (by first | exact HFA.out | exact HFB.out)))))
      refine wpQuiet_nil ?_
      rintro W ⟨⟨_, hb⟩, rfl⟩
      try dsimp only at hb ⊢
      clear y_c0 y_c1 y_c2 y_c3 y_c4 y_c5 y_a0 y_a1 y_a2 y_a3 y_a4 y_a5 y_a6 y_b0 y_b1 y_b2 y_b3 y_b4 y_b5 y_b6
      replace hk := hk.below hb hk.lt
      replace ha := ha.below hb ha.lt
      replace hy := hy.below hb hy.lt
      replace hB := hB.trans (hb.mono hB.size)
      clear hb
      have c0 := hk.cell_ 0 rfl
      have c1 := hk.cell_ 1 rfl
      have c2 := hk.cell_ 2 rfl
      have c3 := hk.cell_ 3 rfl
      have c4 := hk.cell_ 4 rfl
      have c5 := hk.cell_ 5 rfl
      have a0 := ha.cell_ 0 rfl
      have a1 := ha.cell_ 1 rfl
      have a2 := ha.cell_ 2 rfl
      have a3 := ha.cell_ 3 rfl
      have a4 := ha.cell_ 4 rfl
      have a5 := ha.cell_ 5 rfl
      have a6 := ha.cell_ 6 rfl
      have b0 := hy.cell_ 0 rfl
      have b1 := hy.cell_ 1 rfl
      have b2 := hy.cell_ 2 rfl
      have b3 := hy.cell_ 3 rfl
      have b4 := hy.cell_ 4 rfl
      have b5 := hy.cell_ 5 rfl
      have b6 := hy.cell_ 6 rfl
      go_wp2_with fail
      go_ret
      exact ⟨ret_bool (by rw [HR.out, decide_eq_true HM.out, decide_eq_true hr]; rfl), hB⟩
    · have hr1 : decide (roomF s.p a b.x.c ≤ b.t) = false := decide_eq_false hr
      have HSW := hS.on hB
      go_wp2_with fail
      refine wp_region_quiet (C := fun w' => ∃ u : Since W, w' = u.w) (by kernel_rfl) (by kernel_rfl) (Since.start W) ?_
      dsimp only
      have y_c0 := Since.cell c0
      have y_c1 := Since.cell c1
      have y_c2 := Since.cell c2
      have y_c3 := Since.cell c3
      have y_c4 := Since.cell c4
      have y_c5 := Since.cell c5
      have y_a0 := Since.cell a0
      have y_a1 := Since.cell a1
      have y_a2 := Since.cell a2
      have y_a3 := Since.cell a3
      have y_a4 := Since.cell a4
      have y_a5 := Since.cell a5
      have y_a6 := Since.cell a6
      have y_b0 := Since.cell b0
      have y_b1 := Since.cell b1
      have y_b2 := Since.cell b2
      have y_b3 := Since.cell b3
      have y_b4 := Since.cell b4
      have y_b5 := Since.cell b5
      have y_b6 := Since.cell b6
      clear c0 c1 c2 c3 c4 c5 a0 a1 a2 a3 a4 a5 a6 b0 b1 b2 b3 b4 b5 b6
      repeat (go_big_quiet_step ((go_at_call 77; exact Since.calls (room_any s _ _ _ (HSW.on (Since.h _)) hv (by first | exact HFA.out | exact HFB.out)))))
      refine wpQuiet_nil ?_
      rintro W ⟨⟨_, hb⟩, rfl⟩
      try dsimp only at hb ⊢
      clear y_c0 y_c1 y_c2 y_c3 y_c4 y_c5 y_a0 y_a1 y_a2 y_a3 y_a4 y_a5 y_a6 y_b0 y_b1 y_b2 y_b3 y_b4 y_b5 y_b6
      replace hk := hk.below hb hk.lt
      replace ha := ha.below hb ha.lt
      replace hy := hy.below hb hy.lt
      replace hB := hB.trans (hb.mono hB.size)
      clear hb
      have c0 := hk.cell_ 0 rfl
      have c1 := hk.cell_ 1 rfl
      have c2 := hk.cell_ 2 rfl
      have c3 := hk.cell_ 3 rfl
      have c4 := hk.cell_ 4 rfl
      have c5 := hk.cell_ 5 rfl
      have a0 := ha.cell_ 0 rfl
      have a1 := ha.cell_ 1 rfl
      have a2 := ha.cell_ 2 rfl
      have a3 := ha.cell_ 3 rfl
      have a4 := ha.cell_ 4 rfl
      have a5 := ha.cell_ 5 rfl
      have a6 := ha.cell_ 6 rfl
      have b0 := hy.cell_ 0 rfl
      have b1 := hy.cell_ 1 rfl
      have b2 := hy.cell_ 2 rfl
      have b3 := hy.cell_ 3 rfl
      have b4 := hy.cell_ 4 rfl
      have b5 := hy.cell_ 5 rfl
      have b6 := hy.cell_ 6 rfl
      go_wp2_with fail
      go_ret
      exact ⟨ret_bool (by rw [HR.out, decide_eq_true HM.out, decide_eq_false (show ¬ roomF s.p a b.x.c ≤ b.t by omega)]; rfl), hB⟩
  · have hm1 : (a.x.m != b.x.m) = true := by simpa using hm
    have hm2 : (a.x.m == b.x.m) = false := by simpa using hm
    have HM := hide hm
    clear hm
    have HSW := hS.on hB
    go_wp2_with fail
    refine wp_region_quiet (C := fun w' => ∃ u : Since W, w' = u.w) (by kernel_rfl) (by kernel_rfl) (Since.start W) ?_
    dsimp only
    have y_c0 := Since.cell c0
    have y_c1 := Since.cell c1
    have y_c2 := Since.cell c2
    have y_c3 := Since.cell c3
    have y_c4 := Since.cell c4
    have y_c5 := Since.cell c5
    have y_a0 := Since.cell a0
    have y_a1 := Since.cell a1
    have y_a2 := Since.cell a2
    have y_a3 := Since.cell a3
    have y_a4 := Since.cell a4
    have y_a5 := Since.cell a5
    have y_a6 := Since.cell a6
    have y_b0 := Since.cell b0
    have y_b1 := Since.cell b1
    have y_b2 := Since.cell b2
    have y_b3 := Since.cell b3
    have y_b4 := Since.cell b4
    have y_b5 := Since.cell b5
    have y_b6 := Since.cell b6
    clear c0 c1 c2 c3 c4 c5 a0 a1 a2 a3 a4 a5 a6 b0 b1 b2 b3 b4 b5 b6
    repeat (go_big_quiet_step ((go_at_call 77; exact Since.calls (room_any s _ _ _ (HSW.on (Since.h _)) hv (by first | exact HFA.out | exact HFB.out)))))
    refine wpQuiet_nil ?_
    rintro W ⟨⟨_, hb⟩, rfl⟩
    try dsimp only at hb ⊢
    clear y_c0 y_c1 y_c2 y_c3 y_c4 y_c5 y_a0 y_a1 y_a2 y_a3 y_a4 y_a5 y_a6 y_b0 y_b1 y_b2 y_b3 y_b4 y_b5 y_b6
    replace hk := hk.below hb hk.lt
    replace ha := ha.below hb ha.lt
    replace hy := hy.below hb hy.lt
    replace hB := hB.trans (hb.mono hB.size)
    clear hb
    have c0 := hk.cell_ 0 rfl
    have c1 := hk.cell_ 1 rfl
    have c2 := hk.cell_ 2 rfl
    have c3 := hk.cell_ 3 rfl
    have c4 := hk.cell_ 4 rfl
    have c5 := hk.cell_ 5 rfl
    have a0 := ha.cell_ 0 rfl
    have a1 := ha.cell_ 1 rfl
    have a2 := ha.cell_ 2 rfl
    have a3 := ha.cell_ 3 rfl
    have a4 := ha.cell_ 4 rfl
    have a5 := ha.cell_ 5 rfl
    have a6 := ha.cell_ 6 rfl
    have b0 := hy.cell_ 0 rfl
    have b1 := hy.cell_ 1 rfl
    have b2 := hy.cell_ 2 rfl
    have b3 := hy.cell_ 3 rfl
    have b4 := hy.cell_ 4 rfl
    have b5 := hy.cell_ 5 rfl
    have b6 := hy.cell_ 6 rfl
    go_wp2_with fail
    go_ret
    exact ⟨ret_bool (by rw [HR.out, decide_eq_false HM.out]; rfl), hB⟩

theorem inShift_any (s : Sh) (t m : Int) (w : World) (hS : ShAt w w.heap.size s) (hv : VShop s.p) (ht : 0 ≤ t) (ht' : t ≤ 1000000000000) (hm : 0 ≤ m) (hm' : m ≤ 1000000000) :
    Calls Try.prog 80 #[.agg #[.int .i64 s.p.op, .int .i64 s.p.cl, .slice s.aH s.p.hol.length s.cH, .int .i64 s.p.mach, .slice s.aS s.p.setup.length s.cS, .slice s.aJ s.p.jobs.length s.cJ], .int .i64 t, .int .i64 m] w fun e w' => e = .returned (.bool (shiftB s.p t m)) ∧ Below w.heap.size w w' := by
  have HE : Hid (shiftB s.p t m = (!hasB s.p.hol (t / 1440) && decide (s.p.op ≤ t % 1440) && decide (t % 1440 + m ≤ s.p.cl))) := rfl
  have hk := Blk.new w 25 #[.int .i64 s.p.op, .int .i64 s.p.cl, .slice s.aH s.p.hol.length s.cH, .int .i64 s.p.mach, .slice s.aS s.p.setup.length s.cS, .slice s.aJ s.p.jobs.length s.cJ]
  have hB := (Below.refl w.heap.size w).alloc (Nat.le_refl _) (.cells #[.int .i64 s.p.op, .int .i64 s.p.cl, .slice s.aH s.p.hol.length s.cH, .int .i64 s.p.mach, .slice s.aS s.p.setup.length s.cS, .slice s.aJ s.p.jobs.length s.cJ] 25)
  go_enter Try.func80, Try.ntmps80
  go_wp2_with fail
  generalize w.alloc (.cells #[.int .i64 s.p.op, .int .i64 s.p.cl, .slice s.aH s.p.hol.length s.cH, .int .i64 s.p.mach, .slice s.aS s.p.setup.length s.cS, .slice s.aJ s.p.jobs.length s.cJ] 25) = W at *
  have c0 := hk.cell_ 0 rfl
  have c1 := hk.cell_ 1 rfl
  have c2 := hk.cell_ 2 rfl
  have c3 := hk.cell_ 3 rfl
  have c4 := hk.cell_ 4 rfl
  have c5 := hk.cell_ 5 rfl
  go_wp2_with fail
  refine (free_any s _ _ (hS.on hB) hv).mono ?_
  rintro e W ⟨rfl, hb⟩
  clear c0 c1 c2 c3 c4 c5
  replace hk := hk.below hb hk.lt
  replace hB := hB.trans (hb.mono hB.size)
  clear hb
  have c0 := hk.cell_ 0 rfl
  have c1 := hk.cell_ 1 rfl
  have c2 := hk.cell_ 2 rfl
  have c3 := hk.cell_ 3 rfl
  have c4 := hk.cell_ 4 rfl
  have c5 := hk.cell_ 5 rfl
  cases hh : hasB s.p.hol (t / 1440)
  · by_cases h1 : s.p.op ≤ t % 1440
    · go_wp2_with fail
      go_ret
      exact ⟨ret_bool (by rw [HE.out, hh, decide_eq_true h1]; simp), hB⟩
    · go_wp2_with fail
      go_ret
      exact ⟨ret_bool (by rw [HE.out, hh, decide_eq_false (show ¬ s.p.op ≤ t % 1440 by omega)]; simp), hB⟩
  · go_wp2_with fail
    go_ret
    exact ⟨ret_bool (by rw [HE.out, hh]; simp), hB⟩

theorem et_at : ElemT Try.prog 87 91 7 := elemT_mk Try.underlying87 (z := .agg #[.int .i64 0, .int .i64 0, .int .i64 0, .int .i64 0, .int .i64 0, .int .i64 0, .int .i64 0]) (bytes := 56) (by kernel_rfl) rfl (by omega) (by omega)
set_option maxRecDepth 100000 in
theorem list_any (s : Sh) (A : Option Addr) (c : Nat) (pl : List (List Int)) (w : World) (hS : ShAt w w.heap.size s) (hv : VShop s.p) (hP : Plan w w.heap.size A pl) (hp : VPlan s.p pl) :
    Calls Try.prog 79 #[.agg #[.int .i64 s.p.op, .int .i64 s.p.cl, .slice s.aH s.p.hol.length s.cH, .int .i64 s.p.mach, .slice s.aS s.p.setup.length s.cS, .slice s.aJ s.p.jobs.length s.cJ], .slice A pl.length c] w fun e w' => ∃ v, e = .returned v ∧ Below w.heap.size w w' ∧ Own w' w.heap.size 91 7 At.enc v (ats s.p pl) := by
  have hjn := hv.jobn
  have hen := ents_len hv
  have hpn := hp.len
  have hpn' : pl.length ≤ s.p.jobs.length ∧ s.p.jobs.length ≤ pl.length := by omega
  clear hpn
  have hk := Blk.new w 25 #[.int .i64 s.p.op, .int .i64 s.p.cl, .slice s.aH s.p.hol.length s.cH, .int .i64 s.p.mach, .slice s.aS s.p.setup.length s.cS, .slice s.aJ s.p.jobs.length s.cJ]
  have hB := (Below.refl w.heap.size w).alloc (Nat.le_refl _) (.cells #[.int .i64 s.p.op, .int .i64 s.p.cl, .slice s.aH s.p.hol.length s.cH, .int .i64 s.p.mach, .slice s.aS s.p.setup.length s.cS, .slice s.aJ s.p.jobs.length s.cJ] 25)
  have hz : w.heap.size + 1 ≤ (w.alloc (.cells #[.int .i64 s.p.op, .int .i64 s.p.cl, .slice s.aH s.p.hol.length s.cH, .int .i64 s.p.mach, .slice s.aS s.p.setup.length s.cS, .slice s.aJ s.p.jobs.length s.cJ] 25)).heap.size := by simp
  go_enter Try.func79, Try.ntmps79
  go_wp2_with fail
  generalize w.alloc (.cells #[.int .i64 s.p.op, .int .i64 s.p.cl, .slice s.aH s.p.hol.length s.cH, .int .i64 s.p.mach, .slice s.aS s.p.setup.length s.cS, .slice s.aJ s.p.jobs.length s.cJ] 25) = W at *
  have hO : Own W (w.heap.size + 1) 91 7 At.enc (.slice none 0 0) [] := Own.nil_
  go_loopw [5, 12] (fun v y W => ∃ (j : Nat) (es : List Ent), y = .int .i64 j ∧ j ≤ pl.length ∧ Hid (es ++ entsFrom j (s.p.jobs.drop j) = ents s.p) ∧ Blk W w.heap.size 25 #[.int .i64 s.p.op, .int .i64 s.p.cl, .slice s.aH s.p.hol.length s.cH, .int .i64 s.p.mach, .slice s.aS s.p.setup.length s.cS, .slice s.aJ s.p.jobs.length s.cJ] ∧ Own W (w.heap.size + 1) 91 7 At.enc v (es.map (mkAt pl)) ∧ w.heap.size + 1 ≤ W.heap.size ∧ Below w.heap.size w W) (fun v y _ => pl.length - (intOf y).toNat)
  case atStart => exact ⟨0, [], rfl, Nat.zero_le _, hide rfl, hk, hO, hz, hB⟩
  case round =>
    obtain ⟨W, rfl⟩ : ∃ W : World, W = wr := ⟨_, rfl⟩
    obtain ⟨j, es, rfl, hj, hes, hk, hO, hz, hB⟩ := hrel
    by_cases hlt : j < pl.length
    · obtain ⟨l, hl⟩ : ∃ l, pl[j]? = some l := ⟨_, List.getElem?_eq_getElem hlt⟩
      obtain ⟨st, hjl⟩ : ∃ st, s.p.jobs[j]? = some st := ⟨_, List.getElem?_eq_getElem (by omega)⟩
      have hll := (hv.steps j st hjl).1
      have hlen := (hp.at_ j l st hl hjl).1
      have hlen' : l.length ≤ st.length ∧ st.length ≤ l.length := by omega
      have HL := hide hl
      have HJ := hide hjl
      have HES := hide (show es ++ (stepsFrom j 0 (st.drop 0) ++ entsFrom (j + 1) (s.p.jobs.drop (j + 1))) = ents s.p by rw [← hes.out, entsFrom_drop hjl]; rfl)
      clear hes hlen
      obtain ⟨bp, offp, Ap, cp, hAp, hbp, hcp, hSlp⟩ := plan_at hP hl
      have hcpw := (hB.cell (p := ⟨bp, offp + j, none⟩) hbp).trans hcp
      subst hAp
      clear hl hjl
      go_wp2_with fail
      clear hcpw
      go_loopw [5, 19] (fun v z W => ∃ (k : Nat) (es : List Ent), z = .int .i64 k ∧ k ≤ l.length ∧ Hid (es ++ (stepsFrom j k (st.drop k) ++ entsFrom (j + 1) (s.p.jobs.drop (j + 1))) = ents s.p) ∧ Blk W w.heap.size 25 #[.int .i64 s.p.op, .int .i64 s.p.cl, .slice s.aH s.p.hol.length s.cH, .int .i64 s.p.mach, .slice s.aS s.p.setup.length s.cS, .slice s.aJ s.p.jobs.length s.cJ] ∧ Own W (w.heap.size + 1) 91 7 At.enc v (es.map (mkAt pl)) ∧ w.heap.size + 1 ≤ W.heap.size ∧ Below w.heap.size w W) (fun v z _ => l.length - (intOf z).toNat)
      case atStart => exact ⟨0, es, rfl, Nat.zero_le _, HES, hk, hO, hz, hB⟩
      case round =>
        clear HES
        clear hk hO hz hB
        obtain ⟨W, rfl⟩ : ∃ W : World, W = wr := ⟨_, rfl⟩
        obtain ⟨k, es, rfl, hk2, hes, hk, hO, hz, hB⟩ := hrel
        by_cases hlk : k < l.length
        · obtain ⟨t, ht⟩ : ∃ t, l[k]? = some t := ⟨_, List.getElem?_eq_getElem hlk⟩
          obtain ⟨x, hx⟩ : ∃ x, st[k]? = some x := ⟨_, List.getElem?_eq_getElem (by omega)⟩
          have HES := hide (show (es ++ [⟨j, k, x⟩]) ++ (stepsFrom j (k + 1) (st.drop (k + 1)) ++ entsFrom (j + 1) (s.p.jobs.drop (j + 1))) = ents s.p by rw [← hes.out, stepsFrom_drop hx]; simp)
          have hel : es.length + 1 ≤ 96 := by
            have := congrArg List.length HES.out
            simp at this; omega
          have HMK : Hid (mkAt pl ⟨j, k, x⟩ = ⟨j, k, t, x⟩) := by show mkAt _ _ = _; unfold mkAt; rw [planAt_eq HL.out ht]
          obtain ⟨bt, offt, hAt, hbt, hct⟩ := int_at (hSlp.below hB) ht
          obtain ⟨bj, offj, Aj, cj, hAj, hbj, hcj, hSlj⟩ := job_at hS.jobs HJ.out
          obtain ⟨bx, offx, hAx, hbx, d0, d1, d2, d3⟩ := step_at (hSlj.below hB) hx
          have hcjw := (hB.cell (p := ⟨bj, offj + j, none⟩) hbj).trans hcj
          have hxl : k < st.length := by omega
          have hjlt : j < s.p.jobs.length := by omega
          clear hes ht hx
          obtain ⟨p, aH, cH, aS, cS, aJ, cJ⟩ := s
          dsimp only at *
          subst hAt hAj hAx
          have c5 := hk.cell_ 5 rfl
          have hlm : (es.map (mkAt pl)).length = es.length := List.length_map ..
          go_wp2_with (at_builtin; refine wpList_app _ _ rfl rfl et_at hO rfl rfl (y := (⟨j, k, t, x⟩ : At)) rfl rfl rfl (by rw [hlm]; omega) (by omega) ?_; intro v' W hO' hb hgt; clear c5 hcjw d0 d1 d2 d3 hct; replace hk := hk.below hb (by omega); replace hB := hB.trans (hb.mono (by omega)))
          go_roundw
          case rel => exact ⟨k + 1, es ++ [⟨j, k, x⟩], by go_num, by omega, HES, hk, by rw [List.map_append, List.map_cons, List.map_nil, HMK.out]; exact hO', by omega, hB⟩
          case measure => simp [intOf]; omega
        · obtain rfl : k = l.length := by omega
          have HES := hide (show es ++ entsFrom (j + 1) (s.p.jobs.drop (j + 1)) = ents s.p by rw [← hes.out, List.drop_eq_nil_of_le hlen'.2]; rfl)
          clear hes
          go_wp2_with fail
          go_roundw
          case rel => exact ⟨j + 1, es, by go_num, by omega, HES, hk, hO, hz, hB⟩
          case measure => simp [intOf]; omega
    · obtain rfl : j = pl.length := by omega
      have he : es = ents s.p := by rw [← hes.out, List.drop_eq_nil_of_le hpn'.2]; simp [entsFrom]
      clear hes
      go_wp2_with fail
      go_ret
      exact ⟨_, rfl, hB, by rw [he] at hO; exact hO.mono_base (by omega)⟩
end Go.Proofs.Ytcpnfcnobnjhdaa

/- The judge of package shop: the walk. -/
namespace Go.Proofs.Ytcpnfcnobnjhdaa
open Go.RowKit
theorem at7 {w : World} {B : Nat} {A : Option Addr} {xs : List At} {k : Nat} {x : At} (h : Slc At.enc 7 w B A xs) (hx : xs[k]? = some x) :
    ∃ b off, A = some ⟨b, off, none⟩ ∧ b < B ∧ w.cell? ⟨b, off + k * 7, none⟩ = some (.int .i64 x.j) ∧ w.cell? ⟨b, off + k * 7 + 1, none⟩ = some (.int .i64 x.k) ∧ w.cell? ⟨b, off + k * 7 + 2, none⟩ = some (.int .i64 x.t) ∧ w.cell? ⟨b, off + k * 7 + 3, none⟩ = some (.int .i64 x.x.m) ∧ w.cell? ⟨b, off + k * 7 + 4, none⟩ = some (.int .i64 x.x.mi) ∧ w.cell? ⟨b, off + k * 7 + 5, none⟩ = some (.int .i64 x.x.c) ∧ w.cell? ⟨b, off + k * 7 + 6, none⟩ = some (.int .i64 x.x.d) := by
  obtain ⟨b, off, ha, hb, hc⟩ := h k _ hx
  exact ⟨b, off, ha, hb, by simpa using hc 0 _ rfl, hc 1 _ rfl, hc 2 _ rfl, hc 3 _ rfl, hc 4 _ rfl, hc 5 _ rfl, hc 6 _ rfl⟩
theorem ret_eq3 {a b : Value} (h : a = b) : Ending.returned a = .returned b := by rw [h]
theorem Slc.drop_ {α : Type} {enc : α → List Value} {sz : Nat} {w : World} {B b off : Nat} {xs : List α} (h : Slc enc sz w B (some ⟨b, off, none⟩) xs) (n : Nat) : Slc enc sz w B (some ⟨b, off + n * sz, none⟩) (xs.drop n) := fun i x hx => by
  rw [List.getElem?_drop] at hx
  obtain ⟨b', off', hA, hb, hc⟩ := h _ x hx
  injection hA with hA
  injection hA with h1 h2
  subst h1 h2
  refine ⟨b, off + n * sz, rfl, hb, fun j v hv => ?_⟩
  have := hc j v hv
  rw [show off + n * sz + i * sz + j = off + (n + i) * sz + j by rw [Nat.add_mul]; omega]
  exact this
/-- what the two judges return -/
def JPost (p : Shop) (pl : List (List Int)) (w : World) (e : Ending) (w' : World) : Prop := e = .returned (V3 (judgeF p pl)) ∧ Below w.heap.size w w'
set_option maxRecDepth 100000 in
set_option maxHeartbeats 2000000 in
theorem judge_any (s : Sh) (A : Option Addr) (c : Nat) (pl : List (List Int)) (w : World) (hS : ShAt w w.heap.size s) (hv : VShop s.p) (hP : Plan w w.heap.size A pl) (hf : PFits pl) :
    Calls Try.prog 64 #[.agg #[.int .i64 s.p.op, .int .i64 s.p.cl, .slice s.aH s.p.hol.length s.cH, .int .i64 s.p.mach, .slice s.aS s.p.setup.length s.cS, .slice s.aJ s.p.jobs.length s.cJ], .slice A pl.length c] w (JPost s.p pl w) := by
  have hen := ents_len hv
  have v1 := hv.op0
  have v3 := hv.cl
  have HJ : Hid (judgeF s.p pl = if shapedB s.p pl then judgeL s.p (ats s.p pl) else (0, 0, 2)) := rfl
  have hk := Blk.new w 25 #[.int .i64 s.p.op, .int .i64 s.p.cl, .slice s.aH s.p.hol.length s.cH, .int .i64 s.p.mach, .slice s.aS s.p.setup.length s.cS, .slice s.aJ s.p.jobs.length s.cJ]
  have hB := (Below.refl w.heap.size w).alloc (Nat.le_refl _) (.cells #[.int .i64 s.p.op, .int .i64 s.p.cl, .slice s.aH s.p.hol.length s.cH, .int .i64 s.p.mach, .slice s.aS s.p.setup.length s.cS, .slice s.aJ s.p.jobs.length s.cJ] 25)
  go_enter Try.func64, Try.ntmps64
  go_wp2_with fail
  generalize w.alloc (.cells #[.int .i64 s.p.op, .int .i64 s.p.cl, .slice s.aH s.p.hol.length s.cH, .int .i64 s.p.mach, .slice s.aS s.p.setup.length s.cS, .slice s.aJ s.p.jobs.length s.cJ] 25) = W at *
  have c0 := hk.cell_ 0 rfl
  have c1 := hk.cell_ 1 rfl
  have c2 := hk.cell_ 2 rfl
  have c3 := hk.cell_ 3 rfl
  have c4 := hk.cell_ 4 rfl
  have c5 := hk.cell_ 5 rfl
  go_wp2_with fail
  refine (shaped_any s A c pl _ (hS.on hB) hv (hP.on hB) hf).mono ?_
  rintro e W ⟨rfl, hb⟩
  clear c0 c1 c2 c3 c4 c5
  replace hk := hk.below hb hk.lt
  replace hB := hB.trans (hb.mono hB.size)
  clear hb
  have c0 := hk.cell_ 0 rfl
  have c1 := hk.cell_ 1 rfl
  have c2 := hk.cell_ 2 rfl
  have c3 := hk.cell_ 3 rfl
  have c4 := hk.cell_ 4 rfl
  have c5 := hk.cell_ 5 rfl
  cases hsh : shapedB s.p pl
  · go_wp2_with fail
    go_ret3
    exact ⟨ret_eq (by rw [HJ.out, hsh]; rfl), hB⟩
  have hp := shaped_facts hsh
  have HJ2 := hide (show judgeF s.p pl = judgeL s.p (ats s.p pl) by rw [HJ.out, if_pos hsh])
  have hal := ats_len s.p pl
  have hal2 : (ats s.p pl).length ≤ 96 := by omega
  have HOK := hide (fun (a : At) (h : a ∈ ats s.p pl) => ats_ok hv hp h)
  have HPV := hide (fun (i : Nat) (a : At) (h : (ats s.p pl)[i]? = some a) (hk : 0 < a.k) => ats_prev h hk)
  clear HJ hsh hal
  go_wp2_with fail
  refine (list_any s A c pl _ (hS.on hB) hv (hP.on hB) hp).mono ?_
  rintro e W ⟨v, rfl, hb, hO⟩
  clear c0 c1 c2 c3 c4 c5
  replace hk := hk.below hb hk.lt
  replace hB := hB.trans (hb.mono hB.size)
  clear hb
  have c0 := hk.cell_ 0 rfl
  have c1 := hk.cell_ 1 rfl
  have c2 := hk.cell_ 2 rfl
  have c3 := hk.cell_ 3 rfl
  have c4 := hk.cell_ 4 rfl
  have c5 := hk.cell_ 5 rfl
  obtain ⟨AL, cL, rfl, hcap, hL⟩ := hO.form2 fun _ => rfl
  clear hO
  generalize ats s.p pl = L at *
  clear c0 c1 c2 c3 c4 c5
  go_wp2_with fail
  go_loopw [25] (fun x W => ∃ i : Nat, x = .int .i64 i ∧ i ≤ L.length ∧ Hid (shiftBad s.p L = shiftBad s.p (L.drop i)) ∧ Blk W w.heap.size 25 #[.int .i64 s.p.op, .int .i64 s.p.cl, .slice s.aH s.p.hol.length s.cH, .int .i64 s.p.mach, .slice s.aS s.p.setup.length s.cS, .slice s.aJ s.p.jobs.length s.cJ] ∧ Slc At.enc 7 W W.heap.size AL L ∧ Below w.heap.size w W) (fun x _ => L.length - (intOf x).toNat)
  case atStart => exact ⟨0, rfl, Nat.zero_le _, hide rfl, hk, hL, hB⟩
  case round =>
    clear hk hB hL
    obtain ⟨W, rfl⟩ : ∃ W : World, W = wr := ⟨_, rfl⟩
    obtain ⟨i, rfl, hi, HS, hk, hL, hB⟩ := hrel
    by_cases hlt : i < L.length
    · obtain ⟨a, ha⟩ : ∃ a, L[i]? = some a := ⟨_, List.getElem?_eq_getElem hlt⟩
      obtain ⟨b, off, hA, hb0, d0, d1, d2, d3, d4, d5, d6⟩ := at7 hL ha
      have hok := HOK.out a (List.mem_of_getElem? ha)
      have o1 := hok.t0
      have o2 := hok.t1
      have o3 := hok.mi0
      have o4 := hok.mi1
      have HST := hide (shiftBad_drop (p := s.p) ha)
      clear ha hok
      subst hA
      have c0 := hk.cell_ 0 rfl
      have c1 := hk.cell_ 1 rfl
      have c2 := hk.cell_ 2 rfl
      have c3 := hk.cell_ 3 rfl
      have c4 := hk.cell_ 4 rfl
      have c5 := hk.cell_ 5 rfl
      have q_c0 := (hk.alloc (.cells #[.int .i64 a.j, .int .i64 a.k, .int .i64 a.t, .int .i64 a.x.m, .int .i64 a.x.mi, .int .i64 a.x.c, .int .i64 a.x.d] 91)).cell_ 0 rfl
      have q_c1 := (hk.alloc (.cells #[.int .i64 a.j, .int .i64 a.k, .int .i64 a.t, .int .i64 a.x.m, .int .i64 a.x.mi, .int .i64 a.x.c, .int .i64 a.x.d] 91)).cell_ 1 rfl
      have q_c2 := (hk.alloc (.cells #[.int .i64 a.j, .int .i64 a.k, .int .i64 a.t, .int .i64 a.x.m, .int .i64 a.x.mi, .int .i64 a.x.c, .int .i64 a.x.d] 91)).cell_ 2 rfl
      have q_c3 := (hk.alloc (.cells #[.int .i64 a.j, .int .i64 a.k, .int .i64 a.t, .int .i64 a.x.m, .int .i64 a.x.mi, .int .i64 a.x.c, .int .i64 a.x.d] 91)).cell_ 3 rfl
      have q_c4 := (hk.alloc (.cells #[.int .i64 a.j, .int .i64 a.k, .int .i64 a.t, .int .i64 a.x.m, .int .i64 a.x.mi, .int .i64 a.x.c, .int .i64 a.x.d] 91)).cell_ 4 rfl
      have q_c5 := (hk.alloc (.cells #[.int .i64 a.j, .int .i64 a.k, .int .i64 a.t, .int .i64 a.x.m, .int .i64 a.x.mi, .int .i64 a.x.c, .int .i64 a.x.d] 91)).cell_ 5 rfl
      go_wp2_with fail
      clear q_c0 q_c1 q_c2 q_c3 q_c4 q_c5
      clear c0 c1 c2 c3 c4 c5
      have hx := Blk.new W 91 #[.int .i64 a.j, .int .i64 a.k, .int .i64 a.t, .int .i64 a.x.m, .int .i64 a.x.mi, .int .i64 a.x.c, .int .i64 a.x.d]
      replace hk := hk.alloc (.cells #[.int .i64 a.j, .int .i64 a.k, .int .i64 a.t, .int .i64 a.x.m, .int .i64 a.x.mi, .int .i64 a.x.c, .int .i64 a.x.d] 91)
      replace hL := (hL.below ((Below.refl _ W).alloc (Nat.le_refl _) (.cells #[.int .i64 a.j, .int .i64 a.k, .int .i64 a.t, .int .i64 a.x.m, .int .i64 a.x.mi, .int .i64 a.x.c, .int .i64 a.x.d] 91))).more ((Below.refl _ W).alloc (Nat.le_refl _) (.cells #[.int .i64 a.j, .int .i64 a.k, .int .i64 a.t, .int .i64 a.x.m, .int .i64 a.x.mi, .int .i64 a.x.c, .int .i64 a.x.d] 91)).size
      replace hB := hB.alloc hB.size (.cells #[.int .i64 a.j, .int .i64 a.k, .int .i64 a.t, .int .i64 a.x.m, .int .i64 a.x.mi, .int .i64 a.x.c, .int .i64 a.x.d] 91)
      generalize W.alloc (.cells #[.int .i64 a.j, .int .i64 a.k, .int .i64 a.t, .int .i64 a.x.m, .int .i64 a.x.mi, .int .i64 a.x.c, .int .i64 a.x.d] 91) = W at *
      have c0 := hk.cell_ 0 rfl
      have c1 := hk.cell_ 1 rfl
      have c2 := hk.cell_ 2 rfl
      have c3 := hk.cell_ 3 rfl
      have c4 := hk.cell_ 4 rfl
      have c5 := hk.cell_ 5 rfl
      have a0 := hx.cell_ 0 rfl
      have a1 := hx.cell_ 1 rfl
      have a2 := hx.cell_ 2 rfl
      have a3 := hx.cell_ 3 rfl
      have a4 := hx.cell_ 4 rfl
      have a5 := hx.cell_ 5 rfl
      have a6 := hx.cell_ 6 rfl
      clear d0 d1 d2 d3 d4 d5 d6
      go_wp2_with fail
      refine (inShift_any s a.t a.x.mi _ (hS.on hB) hv o1 (by omega) (by omega) (by omega)).mono ?_
      rintro e W ⟨rfl, hb⟩
      clear c0 c1 c2 c3 c4 c5 a0 a1 a2 a3 a4 a5 a6
      replace hk := hk.below hb hk.lt
      replace hL := (hL.below hb).more hb.size
      replace hx := hx.below hb hx.lt
      replace hB := hB.trans (hb.mono hB.size)
      clear hb
      have c0 := hk.cell_ 0 rfl
      have c1 := hk.cell_ 1 rfl
      have c2 := hk.cell_ 2 rfl
      have c3 := hk.cell_ 3 rfl
      have c4 := hk.cell_ 4 rfl
      have c5 := hk.cell_ 5 rfl
      have a0 := hx.cell_ 0 rfl
      have a1 := hx.cell_ 1 rfl
      have a2 := hx.cell_ 2 rfl
      have a3 := hx.cell_ 3 rfl
      have a4 := hx.cell_ 4 rfl
      have a5 := hx.cell_ 5 rfl
      have a6 := hx.cell_ 6 rfl
      cases hsb : shiftB s.p a.t a.x.mi
      · go_wp2_with fail
        refine wp_region_quiet (C := fun w' => ∃ u : Since W, w' = u.w) (by kernel_rfl) (by kernel_rfl) (Since.start W) ?_
        dsimp only
        have y_c0 := Since.cell c0
        have y_c1 := Since.cell c1
        have y_c2 := Since.cell c2
        have y_c3 := Since.cell c3
        have y_c4 := Since.cell c4
        have y_c5 := Since.cell c5
        have y_a0 := Since.cell a0
        have y_a1 := Since.cell a1
        have y_a2 := Since.cell a2
        have y_a3 := Since.cell a3
        have y_a4 := Since.cell a4
        have y_a5 := Since.cell a5
        have y_a6 := Since.cell a6
        clear c0 c1 c2 c3 c4 c5 a0 a1 a2 a3 a4 a5 a6
        repeat (go_big_quiet_step ((fail)))
        refine wpQuiet_nil ?_
        rintro W ⟨⟨_, hb⟩, rfl⟩
        try dsimp only at hb ⊢
        clear y_c0 y_c1 y_c2 y_c3 y_c4 y_c5 y_a0 y_a1 y_a2 y_a3 y_a4 y_a5 y_a6
        replace hk := hk.below hb hk.lt
        replace hL := (hL.below hb).more hb.size
        replace hx := hx.below hb hx.lt
        replace hB := hB.trans (hb.mono hB.size)
        clear hb
        have c0 := hk.cell_ 0 rfl
        have c1 := hk.cell_ 1 rfl
        have c2 := hk.cell_ 2 rfl
        have c3 := hk.cell_ 3 rfl
        have c4 := hk.cell_ 4 rfl
        have c5 := hk.cell_ 5 rfl
        have a0 := hx.cell_ 0 rfl
        have a1 := hx.cell_ 1 rfl
        have a2 := hx.cell_ 2 rfl
        have a3 := hx.cell_ 3 rfl
        have a4 := hx.cell_ 4 rfl
        have a5 := hx.cell_ 5 rfl
        have a6 := hx.cell_ 6 rfl
        go_wp2_with fail
        go_ret3
        exact ⟨ret_eq (by rw [HJ2.out]; unfold judgeL; rw [HS.out, HST.out, hsb]; rfl), hB⟩
      · go_wp2_with fail
        go_roundw
        case rel => exact ⟨i + 1, by go_num, by omega, (by show _ = _; rw [HS.out, HST.out, hsb]; rfl), hk, hL, hB⟩
        case measure => simp [intOf]; omega
    · obtain rfl : i = L.length := by omega
      have HS0 : Hid (shiftBad s.p L = none) := by show _ = _; rw [HS.out, nomore]; rfl
      clear HS
      have c0 := hk.cell_ 0 rfl
      have c1 := hk.cell_ 1 rfl
      have c2 := hk.cell_ 2 rfl
      have c3 := hk.cell_ 3 rfl
      have c4 := hk.cell_ 4 rfl
      have c5 := hk.cell_ 5 rfl
      go_wp2_with fail
      clear c0 c1 c2 c3 c4 c5
      go_loopw [44] (fun x W => ∃ (i : Nat) (dr : Int), x = .int .i64 i ∧ i ≤ L.length ∧ Hid (earlyBad 0 L = earlyBad dr (L.drop i)) ∧ Hid (∀ i', i = i' + 1 → ∃ b, L[i']? = some b ∧ dr = b.dry) ∧ Blk W w.heap.size 25 #[.int .i64 s.p.op, .int .i64 s.p.cl, .slice s.aH s.p.hol.length s.cH, .int .i64 s.p.mach, .slice s.aS s.p.setup.length s.cS, .slice s.aJ s.p.jobs.length s.cJ] ∧ Slc At.enc 7 W W.heap.size AL L ∧ Below w.heap.size w W) (fun x _ => L.length - (intOf x).toNat)
      case atStart => exact ⟨0, 0, rfl, Nat.zero_le _, hide rfl, hide fun i' h => by omega, hk, hL, hB⟩
      case round =>
        clear hk hB hL
        obtain ⟨W, rfl⟩ : ∃ W : World, W = wr := ⟨_, rfl⟩
        obtain ⟨i, dr, rfl, hi, HS, HPR, hk, hL, hB⟩ := hrel
        by_cases hlt : i < L.length
        · obtain ⟨a, ha⟩ : ∃ a, L[i]? = some a := ⟨_, List.getElem?_eq_getElem hlt⟩
          obtain ⟨b, off, hA, hb0, d0, d1, d2, d3, d4, d5, d6⟩ := at7 hL ha
          have hok := HOK.out a (List.mem_of_getElem? ha)
          have o1 := hok.t0
          have o2 := hok.t1
          have HST := hide (earlyBad_drop (dr := dr) ha)
          have HA := hide ha
          clear ha hok
          subst hA
          have c0 := hk.cell_ 0 rfl
          have c1 := hk.cell_ 1 rfl
          have c2 := hk.cell_ 2 rfl
          have c3 := hk.cell_ 3 rfl
          have c4 := hk.cell_ 4 rfl
          have c5 := hk.cell_ 5 rfl
          have q_c0 := (hk.alloc (.cells #[.int .i64 a.j, .int .i64 a.k, .int .i64 a.t, .int .i64 a.x.m, .int .i64 a.x.mi, .int .i64 a.x.c, .int .i64 a.x.d] 91)).cell_ 0 rfl
          have q_c1 := (hk.alloc (.cells #[.int .i64 a.j, .int .i64 a.k, .int .i64 a.t, .int .i64 a.x.m, .int .i64 a.x.mi, .int .i64 a.x.c, .int .i64 a.x.d] 91)).cell_ 1 rfl
          have q_c2 := (hk.alloc (.cells #[.int .i64 a.j, .int .i64 a.k, .int .i64 a.t, .int .i64 a.x.m, .int .i64 a.x.mi, .int .i64 a.x.c, .int .i64 a.x.d] 91)).cell_ 2 rfl
          have q_c3 := (hk.alloc (.cells #[.int .i64 a.j, .int .i64 a.k, .int .i64 a.t, .int .i64 a.x.m, .int .i64 a.x.mi, .int .i64 a.x.c, .int .i64 a.x.d] 91)).cell_ 3 rfl
          have q_c4 := (hk.alloc (.cells #[.int .i64 a.j, .int .i64 a.k, .int .i64 a.t, .int .i64 a.x.m, .int .i64 a.x.mi, .int .i64 a.x.c, .int .i64 a.x.d] 91)).cell_ 4 rfl
          have q_c5 := (hk.alloc (.cells #[.int .i64 a.j, .int .i64 a.k, .int .i64 a.t, .int .i64 a.x.m, .int .i64 a.x.mi, .int .i64 a.x.c, .int .i64 a.x.d] 91)).cell_ 5 rfl
          go_wp2_with fail
          clear q_c0 q_c1 q_c2 q_c3 q_c4 q_c5
          clear c0 c1 c2 c3 c4 c5
          have hx := Blk.new W 91 #[.int .i64 a.j, .int .i64 a.k, .int .i64 a.t, .int .i64 a.x.m, .int .i64 a.x.mi, .int .i64 a.x.c, .int .i64 a.x.d]
          replace hk := hk.alloc (.cells #[.int .i64 a.j, .int .i64 a.k, .int .i64 a.t, .int .i64 a.x.m, .int .i64 a.x.mi, .int .i64 a.x.c, .int .i64 a.x.d] 91)
          replace hL := (hL.below ((Below.refl _ W).alloc (Nat.le_refl _) (.cells #[.int .i64 a.j, .int .i64 a.k, .int .i64 a.t, .int .i64 a.x.m, .int .i64 a.x.mi, .int .i64 a.x.c, .int .i64 a.x.d] 91))).more ((Below.refl _ W).alloc (Nat.le_refl _) (.cells #[.int .i64 a.j, .int .i64 a.k, .int .i64 a.t, .int .i64 a.x.m, .int .i64 a.x.mi, .int .i64 a.x.c, .int .i64 a.x.d] 91)).size
          replace hB := hB.alloc hB.size (.cells #[.int .i64 a.j, .int .i64 a.k, .int .i64 a.t, .int .i64 a.x.m, .int .i64 a.x.mi, .int .i64 a.x.c, .int .i64 a.x.d] 91)
          generalize W.alloc (.cells #[.int .i64 a.j, .int .i64 a.k, .int .i64 a.t, .int .i64 a.x.m, .int .i64 a.x.mi, .int .i64 a.x.c, .int .i64 a.x.d] 91) = W at *
          have c0 := hk.cell_ 0 rfl
          have c1 := hk.cell_ 1 rfl
          have c2 := hk.cell_ 2 rfl
          have c3 := hk.cell_ 3 rfl
          have c4 := hk.cell_ 4 rfl
          have c5 := hk.cell_ 5 rfl
          have a0 := hx.cell_ 0 rfl
          have a1 := hx.cell_ 1 rfl
          have a2 := hx.cell_ 2 rfl
          have a3 := hx.cell_ 3 rfl
          have a4 := hx.cell_ 4 rfl
          have a5 := hx.cell_ 5 rfl
          have a6 := hx.cell_ 6 rfl
          clear d0 d1 d2 d3 d4 d5 d6
          by_cases hk0 : 0 < a.k
          · obtain ⟨i', hi', e, he, hej, hek⟩ := HPV.out i a HA.out hk0
            subst hi'
            obtain ⟨e', he', hdr⟩ := HPR.out i' rfl
            obtain rfl : e' = e := by rw [he] at he'; injection he' with he'; exact he'.symm
            have HDR := hide hdr
            clear hdr he'
            obtain ⟨b2, off2, hA2, hb2, e0, e1, e2, e3, e4, e5, e6⟩ := at7 hL he
            have hok2 := HOK.out _ (List.mem_of_getElem? he)
            have q1 := hok2.t0
            have q2 := hok2.t1
            have q3 := hok2.mi0
            have q4 := hok2.mi1
            have q5 := hok2.d0
            have q6 := hok2.d1
            clear he hok2 hej hek
            injection hA2 with hA2
            injection hA2 with h7 h8
            subst h7 h8
            have x1 : IntKind.i64.wrap (i' : Int) = (i' : Int) := IntWalk.i64_in _ (by omega)
            have x2 : (i' : Int) < (L.length : Int) := by omega
            have x3 : decide ((0 : Int) < (a.k : Int)) = true := by simp; omega
            have x4 : (0 : Int) < (a.k : Int) := by omega
            by_cases hbad : a.t < e'.dry
            · have x5 : decide (a.t < e'.dry) = true := decide_eq_true hbad
              go_wp2_with fail
              refine wp_region_quiet (C := fun w' => ∃ u : Since W, w' = u.w) (by kernel_rfl) (by kernel_rfl) (Since.start W) ?_
              dsimp only
              have y_c0 := Since.cell c0
              have y_c1 := Since.cell c1
              have y_c2 := Since.cell c2
              have y_c3 := Since.cell c3
              have y_c4 := Since.cell c4
              have y_c5 := Since.cell c5
              have y_a0 := Since.cell a0
              have y_a1 := Since.cell a1
              have y_a2 := Since.cell a2
              have y_a3 := Since.cell a3
              have y_a4 := Since.cell a4
              have y_a5 := Since.cell a5
              have y_a6 := Since.cell a6
              have y_e0 := Since.cell e0
              have y_e1 := Since.cell e1
              have y_e2 := Since.cell e2
              have y_e3 := Since.cell e3
              have y_e4 := Since.cell e4
              have y_e5 := Since.cell e5
              have y_e6 := Since.cell e6
              clear c0 c1 c2 c3 c4 c5 a0 a1 a2 a3 a4 a5 a6
              repeat (go_big_quiet_step ((go_at_call 78; exact Since.calls (dry_any e' _ ⟨by omega, by omega⟩ ⟨by omega, by omega⟩ ⟨q5, by omega⟩))))
              refine wpQuiet_nil ?_
              rintro W ⟨⟨_, hb⟩, rfl⟩
              try dsimp only at hb ⊢
              replace e0 : W.cell? _ = _ := y_e0 ⟨W, hb⟩
              replace e1 : W.cell? _ = _ := y_e1 ⟨W, hb⟩
              replace e2 : W.cell? _ = _ := y_e2 ⟨W, hb⟩
              replace e3 : W.cell? _ = _ := y_e3 ⟨W, hb⟩
              replace e4 : W.cell? _ = _ := y_e4 ⟨W, hb⟩
              replace e5 : W.cell? _ = _ := y_e5 ⟨W, hb⟩
              replace e6 : W.cell? _ = _ := y_e6 ⟨W, hb⟩
              clear y_c0 y_c1 y_c2 y_c3 y_c4 y_c5 y_a0 y_a1 y_a2 y_a3 y_a4 y_a5 y_a6 y_e0 y_e1 y_e2 y_e3 y_e4 y_e5 y_e6
              replace hk := hk.below hb hk.lt
              replace hL := (hL.below hb).more hb.size
              replace hx := hx.below hb hx.lt
              replace hB := hB.trans (hb.mono hB.size)
              clear hb
              have c0 := hk.cell_ 0 rfl
              have c1 := hk.cell_ 1 rfl
              have c2 := hk.cell_ 2 rfl
              have c3 := hk.cell_ 3 rfl
              have c4 := hk.cell_ 4 rfl
              have c5 := hk.cell_ 5 rfl
              have a0 := hx.cell_ 0 rfl
              have a1 := hx.cell_ 1 rfl
              have a2 := hx.cell_ 2 rfl
              have a3 := hx.cell_ 3 rfl
              have a4 := hx.cell_ 4 rfl
              have a5 := hx.cell_ 5 rfl
              have a6 := hx.cell_ 6 rfl
              go_wp2_with fail
              go_wp2_with fail
              refine wp_region_quiet (C := fun w' => ∃ u : Since W, w' = u.w) (by kernel_rfl) (by kernel_rfl) (Since.start W) ?_
              dsimp only
              have y_c0 := Since.cell c0
              have y_c1 := Since.cell c1
              have y_c2 := Since.cell c2
              have y_c3 := Since.cell c3
              have y_c4 := Since.cell c4
              have y_c5 := Since.cell c5
              have y_a0 := Since.cell a0
              have y_a1 := Since.cell a1
              have y_a2 := Since.cell a2
              have y_a3 := Since.cell a3
              have y_a4 := Since.cell a4
              have y_a5 := Since.cell a5
              have y_a6 := Since.cell a6
              clear c0 c1 c2 c3 c4 c5 a0 a1 a2 a3 a4 a5 a6
              repeat (go_big_quiet_step ((fail)))
              refine wpQuiet_nil ?_
              rintro W ⟨⟨_, hb⟩, rfl⟩
              try dsimp only at hb ⊢
              clear y_c0 y_c1 y_c2 y_c3 y_c4 y_c5 y_a0 y_a1 y_a2 y_a3 y_a4 y_a5 y_a6
              replace hk := hk.below hb hk.lt
              replace hL := (hL.below hb).more hb.size
              replace hx := hx.below hb hx.lt
              replace hB := hB.trans (hb.mono hB.size)
              clear hb
              have c0 := hk.cell_ 0 rfl
              have c1 := hk.cell_ 1 rfl
              have c2 := hk.cell_ 2 rfl
              have c3 := hk.cell_ 3 rfl
              have c4 := hk.cell_ 4 rfl
              have c5 := hk.cell_ 5 rfl
              have a0 := hx.cell_ 0 rfl
              have a1 := hx.cell_ 1 rfl
              have a2 := hx.cell_ 2 rfl
              have a3 := hx.cell_ 3 rfl
              have a4 := hx.cell_ 4 rfl
              have a5 := hx.cell_ 5 rfl
              have a6 := hx.cell_ 6 rfl
              go_wp2_with fail
              go_ret3
              exact ⟨ret_eq (by rw [HJ2.out]; unfold judgeL; rw [HS0.out, HS.out, HST.out, if_pos ⟨hk0, by rw [HDR.out]; exact hbad⟩]; rfl), hB⟩
            · have x5 : decide (a.t < e'.dry) = false := decide_eq_false hbad
              go_wp2_with fail
              refine wp_region_quiet (C := fun w' => ∃ u : Since W, w' = u.w) (by kernel_rfl) (by kernel_rfl) (Since.start W) ?_
              dsimp only
              have y_c0 := Since.cell c0
              have y_c1 := Since.cell c1
              have y_c2 := Since.cell c2
              have y_c3 := Since.cell c3
              have y_c4 := Since.cell c4
              have y_c5 := Since.cell c5
              have y_a0 := Since.cell a0
              have y_a1 := Since.cell a1
              have y_a2 := Since.cell a2
              have y_a3 := Since.cell a3
              have y_a4 := Since.cell a4
              have y_a5 := Since.cell a5
              have y_a6 := Since.cell a6
              have y_e0 := Since.cell e0
              have y_e1 := Since.cell e1
              have y_e2 := Since.cell e2
              have y_e3 := Since.cell e3
              have y_e4 := Since.cell e4
              have y_e5 := Since.cell e5
              have y_e6 := Since.cell e6
              clear c0 c1 c2 c3 c4 c5 a0 a1 a2 a3 a4 a5 a6
              repeat (go_big_quiet_step ((go_at_call 78; exact Since.calls (dry_any e' _ ⟨by omega, by omega⟩ ⟨by omega, by omega⟩ ⟨q5, by omega⟩))))
              refine wpQuiet_nil ?_
              rintro W ⟨⟨_, hb⟩, rfl⟩
              try dsimp only at hb ⊢
              replace e0 : W.cell? _ = _ := y_e0 ⟨W, hb⟩
              replace e1 : W.cell? _ = _ := y_e1 ⟨W, hb⟩
              replace e2 : W.cell? _ = _ := y_e2 ⟨W, hb⟩
              replace e3 : W.cell? _ = _ := y_e3 ⟨W, hb⟩
              replace e4 : W.cell? _ = _ := y_e4 ⟨W, hb⟩
              replace e5 : W.cell? _ = _ := y_e5 ⟨W, hb⟩
              replace e6 : W.cell? _ = _ := y_e6 ⟨W, hb⟩
              clear y_c0 y_c1 y_c2 y_c3 y_c4 y_c5 y_a0 y_a1 y_a2 y_a3 y_a4 y_a5 y_a6 y_e0 y_e1 y_e2 y_e3 y_e4 y_e5 y_e6
              replace hk := hk.below hb hk.lt
              replace hL := (hL.below hb).more hb.size
              replace hx := hx.below hb hx.lt
              replace hB := hB.trans (hb.mono hB.size)
              clear hb
              have c0 := hk.cell_ 0 rfl
              have c1 := hk.cell_ 1 rfl
              have c2 := hk.cell_ 2 rfl
              have c3 := hk.cell_ 3 rfl
              have c4 := hk.cell_ 4 rfl
              have c5 := hk.cell_ 5 rfl
              have a0 := hx.cell_ 0 rfl
              have a1 := hx.cell_ 1 rfl
              have a2 := hx.cell_ 2 rfl
              have a3 := hx.cell_ 3 rfl
              have a4 := hx.cell_ 4 rfl
              have a5 := hx.cell_ 5 rfl
              have a6 := hx.cell_ 6 rfl
              go_wp2_with fail
              go_roundw
              case rel => exact ⟨i' + 1 + 1, a.dry, by go_num, by omega, (by show _ = _; rw [HS.out, HST.out, if_neg (by rw [HDR.out]; omega)]), hide (fun j hj => by obtain rfl : j = i' + 1 := (by omega); exact ⟨a, HA.out, rfl⟩), hk, hL, hB⟩
              case measure => simp [intOf]; omega
          · have x3 : decide ((0 : Int) < (a.k : Int)) = false := by simp; omega
            have x4 : ¬ (0 : Int) < (a.k : Int) := by omega
            go_wp2_with fail
            refine wp_region_quiet (C := fun w' => ∃ u : Since W, w' = u.w) (by kernel_rfl) (by kernel_rfl) (Since.start W) ?_
            dsimp only
            have y_c0 := Since.cell c0
            have y_c1 := Since.cell c1
            have y_c2 := Since.cell c2
            have y_c3 := Since.cell c3
            have y_c4 := Since.cell c4
            have y_c5 := Since.cell c5
            have y_a0 := Since.cell a0
            have y_a1 := Since.cell a1
            have y_a2 := Since.cell a2
            have y_a3 := Since.cell a3
            have y_a4 := Since.cell a4
            have y_a5 := Since.cell a5
            have y_a6 := Since.cell a6
            clear c0 c1 c2 c3 c4 c5 a0 a1 a2 a3 a4 a5 a6
            repeat (go_big_quiet_step ((fail)))
            refine wpQuiet_nil ?_
            rintro W ⟨⟨_, hb⟩, rfl⟩
            try dsimp only at hb ⊢
            clear y_c0 y_c1 y_c2 y_c3 y_c4 y_c5 y_a0 y_a1 y_a2 y_a3 y_a4 y_a5 y_a6
            replace hk := hk.below hb hk.lt
            replace hL := (hL.below hb).more hb.size
            replace hx := hx.below hb hx.lt
            replace hB := hB.trans (hb.mono hB.size)
            clear hb
            have c0 := hk.cell_ 0 rfl
            have c1 := hk.cell_ 1 rfl
            have c2 := hk.cell_ 2 rfl
            have c3 := hk.cell_ 3 rfl
            have c4 := hk.cell_ 4 rfl
            have c5 := hk.cell_ 5 rfl
            have a0 := hx.cell_ 0 rfl
            have a1 := hx.cell_ 1 rfl
            have a2 := hx.cell_ 2 rfl
            have a3 := hx.cell_ 3 rfl
            have a4 := hx.cell_ 4 rfl
            have a5 := hx.cell_ 5 rfl
            have a6 := hx.cell_ 6 rfl
            go_wp2_with fail
            go_roundw
            case rel => exact ⟨i + 1, a.dry, by go_num, by omega, (by show _ = _; rw [HS.out, HST.out, if_neg (by omega)]), hide (fun j hj => by obtain rfl : j = i := (by omega); exact ⟨a, HA.out, rfl⟩), hk, hL, hB⟩
            case measure => simp [intOf]; omega
        · obtain rfl : i = L.length := by omega
          have HS1 : Hid (earlyBad 0 L = none) := by show _ = _; rw [HS.out, nomore]; rfl
          clear HS HPR
          have c0 := hk.cell_ 0 rfl
          have c1 := hk.cell_ 1 rfl
          have c2 := hk.cell_ 2 rfl
          have c3 := hk.cell_ 3 rfl
          have c4 := hk.cell_ 4 rfl
          have c5 := hk.cell_ 5 rfl
          go_wp2_with fail
          clear c0 c1 c2 c3 c4 c5
          go_loopw [70] (fun x W => ∃ i : Nat, x = .int .i64 i ∧ i ≤ L.length ∧ Hid (clashBad s.p L = clashBad s.p (L.drop i)) ∧ Blk W w.heap.size 25 #[.int .i64 s.p.op, .int .i64 s.p.cl, .slice s.aH s.p.hol.length s.cH, .int .i64 s.p.mach, .slice s.aS s.p.setup.length s.cS, .slice s.aJ s.p.jobs.length s.cJ] ∧ Slc At.enc 7 W W.heap.size AL L ∧ Below w.heap.size w W) (fun x _ => L.length - (intOf x).toNat)
          case atStart => exact ⟨0, rfl, Nat.zero_le _, hide rfl, hk, hL, hB⟩
          case round =>
            clear hk hB hL
            obtain ⟨W, rfl⟩ : ∃ W : World, W = wr := ⟨_, rfl⟩
            obtain ⟨i, rfl, hi, HS, hk, hL, hB⟩ := hrel
            by_cases hlt : i < L.length
            · obtain ⟨a, ha⟩ : ∃ a, L[i]? = some a := ⟨_, List.getElem?_eq_getElem hlt⟩
              obtain ⟨b, off, hA, hb0, d0, d1, d2, d3, d4, d5, d6⟩ := at7 hL ha
              have hfa := (HOK.out a (List.mem_of_getElem? ha)).fit hv
              have HST := hide (clashBad_drop (p := s.p) ha)
              clear ha
              subst hA
              have c0 := hk.cell_ 0 rfl
              have c1 := hk.cell_ 1 rfl
              have c2 := hk.cell_ 2 rfl
              have c3 := hk.cell_ 3 rfl
              have c4 := hk.cell_ 4 rfl
              have c5 := hk.cell_ 5 rfl
              by_cases hce : cL = i + 1
              · have q_c0 := (hk.alloc (.cells #[.int .i64 a.j, .int .i64 a.k, .int .i64 a.t, .int .i64 a.x.m, .int .i64 a.x.mi, .int .i64 a.x.c, .int .i64 a.x.d] 91)).cell_ 0 rfl
                have q_c1 := (hk.alloc (.cells #[.int .i64 a.j, .int .i64 a.k, .int .i64 a.t, .int .i64 a.x.m, .int .i64 a.x.mi, .int .i64 a.x.c, .int .i64 a.x.d] 91)).cell_ 1 rfl
                have q_c2 := (hk.alloc (.cells #[.int .i64 a.j, .int .i64 a.k, .int .i64 a.t, .int .i64 a.x.m, .int .i64 a.x.mi, .int .i64 a.x.c, .int .i64 a.x.d] 91)).cell_ 2 rfl
                have q_c3 := (hk.alloc (.cells #[.int .i64 a.j, .int .i64 a.k, .int .i64 a.t, .int .i64 a.x.m, .int .i64 a.x.mi, .int .i64 a.x.c, .int .i64 a.x.d] 91)).cell_ 3 rfl
                have q_c4 := (hk.alloc (.cells #[.int .i64 a.j, .int .i64 a.k, .int .i64 a.t, .int .i64 a.x.m, .int .i64 a.x.mi, .int .i64 a.x.c, .int .i64 a.x.d] 91)).cell_ 4 rfl
                have q_c5 := (hk.alloc (.cells #[.int .i64 a.j, .int .i64 a.k, .int .i64 a.t, .int .i64 a.x.m, .int .i64 a.x.mi, .int .i64 a.x.c, .int .i64 a.x.d] 91)).cell_ 5 rfl
                go_wp2_with fail
                clear q_c0 q_c1 q_c2 q_c3 q_c4 q_c5
                clear c0 c1 c2 c3 c4 c5
                have hx := Blk.new W 91 #[.int .i64 a.j, .int .i64 a.k, .int .i64 a.t, .int .i64 a.x.m, .int .i64 a.x.mi, .int .i64 a.x.c, .int .i64 a.x.d]
                replace hk := hk.alloc (.cells #[.int .i64 a.j, .int .i64 a.k, .int .i64 a.t, .int .i64 a.x.m, .int .i64 a.x.mi, .int .i64 a.x.c, .int .i64 a.x.d] 91)
                replace hL := (hL.below ((Below.refl _ W).alloc (Nat.le_refl _) (.cells #[.int .i64 a.j, .int .i64 a.k, .int .i64 a.t, .int .i64 a.x.m, .int .i64 a.x.mi, .int .i64 a.x.c, .int .i64 a.x.d] 91))).more ((Below.refl _ W).alloc (Nat.le_refl _) (.cells #[.int .i64 a.j, .int .i64 a.k, .int .i64 a.t, .int .i64 a.x.m, .int .i64 a.x.mi, .int .i64 a.x.c, .int .i64 a.x.d] 91)).size
                have hsz_bx : (W.alloc (.cells #[.int .i64 a.j, .int .i64 a.k, .int .i64 a.t, .int .i64 a.x.m, .int .i64 a.x.mi, .int .i64 a.x.c, .int .i64 a.x.d] 91)).heap.size = W.heap.size + 1 := by simp
                have bxge := hB.size
                replace hB := hB.alloc hB.size (.cells #[.int .i64 a.j, .int .i64 a.k, .int .i64 a.t, .int .i64 a.x.m, .int .i64 a.x.mi, .int .i64 a.x.c, .int .i64 a.x.d] 91)
                generalize hbx : W.heap.size = bx at *
                generalize W.alloc (.cells #[.int .i64 a.j, .int .i64 a.k, .int .i64 a.t, .int .i64 a.x.m, .int .i64 a.x.mi, .int .i64 a.x.c, .int .i64 a.x.d] 91) = W at *
                clear hbx
                have c0 := hk.cell_ 0 rfl
                have c1 := hk.cell_ 1 rfl
                have c2 := hk.cell_ 2 rfl
                have c3 := hk.cell_ 3 rfl
                have c4 := hk.cell_ 4 rfl
                have c5 := hk.cell_ 5 rfl
                have a0 := hx.cell_ 0 rfl
                have a1 := hx.cell_ 1 rfl
                have a2 := hx.cell_ 2 rfl
                have a3 := hx.cell_ 3 rfl
                have a4 := hx.cell_ 4 rfl
                have a5 := hx.cell_ 5 rfl
                have a6 := hx.cell_ 6 rfl
                clear d0 d1 d2 d3 d4 d5 d6 hsz_bx
                have hR : Slc At.enc 7 W W.heap.size (some ⟨b, off, none⟩) (L.drop (i + 1)) := by rw [List.drop_eq_nil_of_le (by omega)]; exact Slc.nil_
                go_wp2_with fail
                clear c0 c1 c2 c3 c4 c5 a0 a1 a2 a3 a4 a5 a6
                have hlr : (L.drop (i + 1)).length = L.length - (i + 1) := List.length_drop ..
                go_loopw [80] (fun y W => ∃ j : Nat, y = .int .i64 j ∧ j ≤ L.length - (i + 1) ∧ Hid ((L.drop (i + 1)).all (togB s.p a) = ((L.drop (i + 1)).drop j).all (togB s.p a)) ∧ Blk W w.heap.size 25 #[.int .i64 s.p.op, .int .i64 s.p.cl, .slice s.aH s.p.hol.length s.cH, .int .i64 s.p.mach, .slice s.aS s.p.setup.length s.cS, .slice s.aJ s.p.jobs.length s.cJ] ∧ Slc At.enc 7 W W.heap.size (some ⟨b, off, none⟩) L ∧ Blk W bx 91 #[.int .i64 a.j, .int .i64 a.k, .int .i64 a.t, .int .i64 a.x.m, .int .i64 a.x.mi, .int .i64 a.x.c, .int .i64 a.x.d] ∧ Slc At.enc 7 W W.heap.size (some ⟨b, off, none⟩) (L.drop (i + 1)) ∧ Below w.heap.size w W) (fun y _ => L.length - (i + 1) - (intOf y).toNat)
                case atStart => exact ⟨0, rfl, Nat.zero_le _, hide rfl, hk, hL, hx, hR, hB⟩
                case round =>
                  clear hk hB hL hx hR
                  obtain ⟨W, rfl⟩ : ∃ W : World, W = wr := ⟨_, rfl⟩
                  obtain ⟨j, rfl, hj, HS3, hk, hL, hx, hR, hB⟩ := hrel
                  have hlt2 : ¬ j < L.length - (i + 1) := by omega
                  have hjz : ¬ ((j : Int) < ((L.length - (i + 1) : Nat) : Int)) := by omega
                  have HS4 : Hid ((L.drop (i + 1)).all (togB s.p a) = true) := by show _ = _; rw [HS3.out, List.drop_eq_nil_of_le (by omega)]; rfl
                  go_wp2_with fail
                  go_roundw
                  case rel => exact ⟨i + 1, by go_num, by omega, (by show _ = _; rw [HS.out, HST.out, HS4.out]; rfl), hk, hL, hB⟩
                  case measure => simp [intOf]; omega
              · have q_c0 := (hk.alloc (.cells #[.int .i64 a.j, .int .i64 a.k, .int .i64 a.t, .int .i64 a.x.m, .int .i64 a.x.mi, .int .i64 a.x.c, .int .i64 a.x.d] 91)).cell_ 0 rfl
                have q_c1 := (hk.alloc (.cells #[.int .i64 a.j, .int .i64 a.k, .int .i64 a.t, .int .i64 a.x.m, .int .i64 a.x.mi, .int .i64 a.x.c, .int .i64 a.x.d] 91)).cell_ 1 rfl
                have q_c2 := (hk.alloc (.cells #[.int .i64 a.j, .int .i64 a.k, .int .i64 a.t, .int .i64 a.x.m, .int .i64 a.x.mi, .int .i64 a.x.c, .int .i64 a.x.d] 91)).cell_ 2 rfl
                have q_c3 := (hk.alloc (.cells #[.int .i64 a.j, .int .i64 a.k, .int .i64 a.t, .int .i64 a.x.m, .int .i64 a.x.mi, .int .i64 a.x.c, .int .i64 a.x.d] 91)).cell_ 3 rfl
                have q_c4 := (hk.alloc (.cells #[.int .i64 a.j, .int .i64 a.k, .int .i64 a.t, .int .i64 a.x.m, .int .i64 a.x.mi, .int .i64 a.x.c, .int .i64 a.x.d] 91)).cell_ 4 rfl
                have q_c5 := (hk.alloc (.cells #[.int .i64 a.j, .int .i64 a.k, .int .i64 a.t, .int .i64 a.x.m, .int .i64 a.x.mi, .int .i64 a.x.c, .int .i64 a.x.d] 91)).cell_ 5 rfl
                go_wp2_with fail
                clear q_c0 q_c1 q_c2 q_c3 q_c4 q_c5
                clear c0 c1 c2 c3 c4 c5
                have hx := Blk.new W 91 #[.int .i64 a.j, .int .i64 a.k, .int .i64 a.t, .int .i64 a.x.m, .int .i64 a.x.mi, .int .i64 a.x.c, .int .i64 a.x.d]
                replace hk := hk.alloc (.cells #[.int .i64 a.j, .int .i64 a.k, .int .i64 a.t, .int .i64 a.x.m, .int .i64 a.x.mi, .int .i64 a.x.c, .int .i64 a.x.d] 91)
                replace hL := (hL.below ((Below.refl _ W).alloc (Nat.le_refl _) (.cells #[.int .i64 a.j, .int .i64 a.k, .int .i64 a.t, .int .i64 a.x.m, .int .i64 a.x.mi, .int .i64 a.x.c, .int .i64 a.x.d] 91))).more ((Below.refl _ W).alloc (Nat.le_refl _) (.cells #[.int .i64 a.j, .int .i64 a.k, .int .i64 a.t, .int .i64 a.x.m, .int .i64 a.x.mi, .int .i64 a.x.c, .int .i64 a.x.d] 91)).size
                have hsz_bx : (W.alloc (.cells #[.int .i64 a.j, .int .i64 a.k, .int .i64 a.t, .int .i64 a.x.m, .int .i64 a.x.mi, .int .i64 a.x.c, .int .i64 a.x.d] 91)).heap.size = W.heap.size + 1 := by simp
                have bxge := hB.size
                replace hB := hB.alloc hB.size (.cells #[.int .i64 a.j, .int .i64 a.k, .int .i64 a.t, .int .i64 a.x.m, .int .i64 a.x.mi, .int .i64 a.x.c, .int .i64 a.x.d] 91)
                generalize hbx : W.heap.size = bx at *
                generalize W.alloc (.cells #[.int .i64 a.j, .int .i64 a.k, .int .i64 a.t, .int .i64 a.x.m, .int .i64 a.x.mi, .int .i64 a.x.c, .int .i64 a.x.d] 91) = W at *
                clear hbx
                have c0 := hk.cell_ 0 rfl
                have c1 := hk.cell_ 1 rfl
                have c2 := hk.cell_ 2 rfl
                have c3 := hk.cell_ 3 rfl
                have c4 := hk.cell_ 4 rfl
                have c5 := hk.cell_ 5 rfl
                have a0 := hx.cell_ 0 rfl
                have a1 := hx.cell_ 1 rfl
                have a2 := hx.cell_ 2 rfl
                have a3 := hx.cell_ 3 rfl
                have a4 := hx.cell_ 4 rfl
                have a5 := hx.cell_ 5 rfl
                have a6 := hx.cell_ 6 rfl
                clear d0 d1 d2 d3 d4 d5 d6 hsz_bx
                have hR := hL.drop_ (i + 1)
                go_wp2_with fail
                clear c0 c1 c2 c3 c4 c5 a0 a1 a2 a3 a4 a5 a6
                have hlr : (L.drop (i + 1)).length = L.length - (i + 1) := List.length_drop ..
                go_loopw [80] (fun y W => ∃ j : Nat, y = .int .i64 j ∧ j ≤ L.length - (i + 1) ∧ Hid ((L.drop (i + 1)).all (togB s.p a) = ((L.drop (i + 1)).drop j).all (togB s.p a)) ∧ Blk W w.heap.size 25 #[.int .i64 s.p.op, .int .i64 s.p.cl, .slice s.aH s.p.hol.length s.cH, .int .i64 s.p.mach, .slice s.aS s.p.setup.length s.cS, .slice s.aJ s.p.jobs.length s.cJ] ∧ Slc At.enc 7 W W.heap.size (some ⟨b, off, none⟩) L ∧ Blk W bx 91 #[.int .i64 a.j, .int .i64 a.k, .int .i64 a.t, .int .i64 a.x.m, .int .i64 a.x.mi, .int .i64 a.x.c, .int .i64 a.x.d] ∧ Slc At.enc 7 W W.heap.size (some ⟨b, off + (i + 1) * 7, none⟩) (L.drop (i + 1)) ∧ Below w.heap.size w W) (fun y _ => L.length - (i + 1) - (intOf y).toNat)
                case atStart => exact ⟨0, rfl, Nat.zero_le _, hide rfl, hk, hL, hx, hR, hB⟩
                case round =>
                  clear hk hB hL hx hR
                  obtain ⟨W, rfl⟩ : ∃ W : World, W = wr := ⟨_, rfl⟩
                  obtain ⟨j, rfl, hj, HS3, hk, hL, hx, hR, hB⟩ := hrel
                  by_cases hlt2 : j < L.length - (i + 1)
                  · obtain ⟨e, he⟩ : ∃ e, (L.drop (i + 1))[j]? = some e := ⟨_, List.getElem?_eq_getElem (by omega)⟩
                    obtain ⟨b2, off2, hA2, hb2, e0, e1, e2, e3, e4, e5, e6⟩ := at7 hR he
                    have hfe := (HOK.out e (List.mem_of_mem_drop (List.mem_of_getElem? he))).fit hv
                    have HSE := hide (all_drop (f := togB s.p a) he)
                    injection hA2 with hA2
                    injection hA2 with h7 h8
                    subst h7 h8
                    clear he
                    have c0 := hk.cell_ 0 rfl
                    have c1 := hk.cell_ 1 rfl
                    have c2 := hk.cell_ 2 rfl
                    have c3 := hk.cell_ 3 rfl
                    have c4 := hk.cell_ 4 rfl
                    have c5 := hk.cell_ 5 rfl
                    have a0 := hx.cell_ 0 rfl
                    have a1 := hx.cell_ 1 rfl
                    have a2 := hx.cell_ 2 rfl
                    have a3 := hx.cell_ 3 rfl
                    have a4 := hx.cell_ 4 rfl
                    have a5 := hx.cell_ 5 rfl
                    have a6 := hx.cell_ 6 rfl
                    have hjz : (j : Int) < ((L.length - (i + 1) : Nat) : Int) := by omega
                    have q_c0 := (hk.alloc (.cells #[.int .i64 e.j, .int .i64 e.k, .int .i64 e.t, .int .i64 e.x.m, .int .i64 e.x.mi, .int .i64 e.x.c, .int .i64 e.x.d] 91)).cell_ 0 rfl
                    have q_c1 := (hk.alloc (.cells #[.int .i64 e.j, .int .i64 e.k, .int .i64 e.t, .int .i64 e.x.m, .int .i64 e.x.mi, .int .i64 e.x.c, .int .i64 e.x.d] 91)).cell_ 1 rfl
                    have q_c2 := (hk.alloc (.cells #[.int .i64 e.j, .int .i64 e.k, .int .i64 e.t, .int .i64 e.x.m, .int .i64 e.x.mi, .int .i64 e.x.c, .int .i64 e.x.d] 91)).cell_ 2 rfl
                    have q_c3 := (hk.alloc (.cells #[.int .i64 e.j, .int .i64 e.k, .int .i64 e.t, .int .i64 e.x.m, .int .i64 e.x.mi, .int .i64 e.x.c, .int .i64 e.x.d] 91)).cell_ 3 rfl
                    have q_c4 := (hk.alloc (.cells #[.int .i64 e.j, .int .i64 e.k, .int .i64 e.t, .int .i64 e.x.m, .int .i64 e.x.mi, .int .i64 e.x.c, .int .i64 e.x.d] 91)).cell_ 4 rfl
                    have q_c5 := (hk.alloc (.cells #[.int .i64 e.j, .int .i64 e.k, .int .i64 e.t, .int .i64 e.x.m, .int .i64 e.x.mi, .int .i64 e.x.c, .int .i64 e.x.d] 91)).cell_ 5 rfl
                    have q_a0 := (hx.alloc (.cells #[.int .i64 e.j, .int .i64 e.k, .int .i64 e.t, .int .i64 e.x.m, .int .i64 e.x.mi, .int .i64 e.x.c, .int .i64 e.x.d] 91)).cell_ 0 rfl
                    have q_a1 := (hx.alloc (.cells #[.int .i64 e.j, .int .i64 e.k, .int .i64 e.t, .int .i64 e.x.m, .int .i64 e.x.mi, .int .i64 e.x.c, .int .i64 e.x.d] 91)).cell_ 1 rfl
                    have q_a2 := (hx.alloc (.cells #[.int .i64 e.j, .int .i64 e.k, .int .i64 e.t, .int .i64 e.x.m, .int .i64 e.x.mi, .int .i64 e.x.c, .int .i64 e.x.d] 91)).cell_ 2 rfl
                    have q_a3 := (hx.alloc (.cells #[.int .i64 e.j, .int .i64 e.k, .int .i64 e.t, .int .i64 e.x.m, .int .i64 e.x.mi, .int .i64 e.x.c, .int .i64 e.x.d] 91)).cell_ 3 rfl
                    have q_a4 := (hx.alloc (.cells #[.int .i64 e.j, .int .i64 e.k, .int .i64 e.t, .int .i64 e.x.m, .int .i64 e.x.mi, .int .i64 e.x.c, .int .i64 e.x.d] 91)).cell_ 4 rfl
                    have q_a5 := (hx.alloc (.cells #[.int .i64 e.j, .int .i64 e.k, .int .i64 e.t, .int .i64 e.x.m, .int .i64 e.x.mi, .int .i64 e.x.c, .int .i64 e.x.d] 91)).cell_ 5 rfl
                    have q_a6 := (hx.alloc (.cells #[.int .i64 e.j, .int .i64 e.k, .int .i64 e.t, .int .i64 e.x.m, .int .i64 e.x.mi, .int .i64 e.x.c, .int .i64 e.x.d] 91)).cell_ 6 rfl
                    go_wp2_with fail
                    clear q_c0 q_c1 q_c2 q_c3 q_c4 q_c5 q_a0 q_a1 q_a2 q_a3 q_a4 q_a5 q_a6
                    clear c0 c1 c2 c3 c4 c5 a0 a1 a2 a3 a4 a5 a6
                    have hy := Blk.new W 91 #[.int .i64 e.j, .int .i64 e.k, .int .i64 e.t, .int .i64 e.x.m, .int .i64 e.x.mi, .int .i64 e.x.c, .int .i64 e.x.d]
                    replace hk := hk.alloc (.cells #[.int .i64 e.j, .int .i64 e.k, .int .i64 e.t, .int .i64 e.x.m, .int .i64 e.x.mi, .int .i64 e.x.c, .int .i64 e.x.d] 91)
                    replace hL := (hL.below ((Below.refl _ W).alloc (Nat.le_refl _) (.cells #[.int .i64 e.j, .int .i64 e.k, .int .i64 e.t, .int .i64 e.x.m, .int .i64 e.x.mi, .int .i64 e.x.c, .int .i64 e.x.d] 91))).more ((Below.refl _ W).alloc (Nat.le_refl _) (.cells #[.int .i64 e.j, .int .i64 e.k, .int .i64 e.t, .int .i64 e.x.m, .int .i64 e.x.mi, .int .i64 e.x.c, .int .i64 e.x.d] 91)).size
                    replace hx := hx.alloc (.cells #[.int .i64 e.j, .int .i64 e.k, .int .i64 e.t, .int .i64 e.x.m, .int .i64 e.x.mi, .int .i64 e.x.c, .int .i64 e.x.d] 91)
                    replace hR := (hR.below ((Below.refl _ W).alloc (Nat.le_refl _) (.cells #[.int .i64 e.j, .int .i64 e.k, .int .i64 e.t, .int .i64 e.x.m, .int .i64 e.x.mi, .int .i64 e.x.c, .int .i64 e.x.d] 91))).more ((Below.refl _ W).alloc (Nat.le_refl _) (.cells #[.int .i64 e.j, .int .i64 e.k, .int .i64 e.t, .int .i64 e.x.m, .int .i64 e.x.mi, .int .i64 e.x.c, .int .i64 e.x.d] 91)).size
                    replace hB := hB.alloc hB.size (.cells #[.int .i64 e.j, .int .i64 e.k, .int .i64 e.t, .int .i64 e.x.m, .int .i64 e.x.mi, .int .i64 e.x.c, .int .i64 e.x.d] 91)
                    generalize W.alloc (.cells #[.int .i64 e.j, .int .i64 e.k, .int .i64 e.t, .int .i64 e.x.m, .int .i64 e.x.mi, .int .i64 e.x.c, .int .i64 e.x.d] 91) = W at *
                    have c0 := hk.cell_ 0 rfl
                    have c1 := hk.cell_ 1 rfl
                    have c2 := hk.cell_ 2 rfl
                    have c3 := hk.cell_ 3 rfl
                    have c4 := hk.cell_ 4 rfl
                    have c5 := hk.cell_ 5 rfl
                    have a0 := hx.cell_ 0 rfl
                    have a1 := hx.cell_ 1 rfl
                    have a2 := hx.cell_ 2 rfl
                    have a3 := hx.cell_ 3 rfl
                    have a4 := hx.cell_ 4 rfl
                    have a5 := hx.cell_ 5 rfl
                    have a6 := hx.cell_ 6 rfl
                    have y0 := hy.cell_ 0 rfl
                    have y1 := hy.cell_ 1 rfl
                    have y2 := hy.cell_ 2 rfl
                    have y3 := hy.cell_ 3 rfl
                    have y4 := hy.cell_ 4 rfl
                    have y5 := hy.cell_ 5 rfl
                    have y6 := hy.cell_ 6 rfl
                    clear e0 e1 e2 e3 e4 e5 e6
                    go_wp2_with fail
                    refine (together_any s a e _ (hS.on hB) hv hfa hfe).mono ?_
                    rintro e W ⟨rfl, hb⟩
                    clear c0 c1 c2 c3 c4 c5 a0 a1 a2 a3 a4 a5 a6 y0 y1 y2 y3 y4 y5 y6
                    replace hk := hk.below hb hk.lt
                    replace hL := (hL.below hb).more hb.size
                    replace hx := hx.below hb hx.lt
                    replace hR := (hR.below hb).more hb.size
                    replace hy := hy.below hb hy.lt
                    replace hB := hB.trans (hb.mono hB.size)
                    clear hb
                    have c0 := hk.cell_ 0 rfl
                    have c1 := hk.cell_ 1 rfl
                    have c2 := hk.cell_ 2 rfl
                    have c3 := hk.cell_ 3 rfl
                    have c4 := hk.cell_ 4 rfl
                    have c5 := hk.cell_ 5 rfl
                    have a0 := hx.cell_ 0 rfl
                    have a1 := hx.cell_ 1 rfl
                    have a2 := hx.cell_ 2 rfl
                    have a3 := hx.cell_ 3 rfl
                    have a4 := hx.cell_ 4 rfl
                    have a5 := hx.cell_ 5 rfl
                    have a6 := hx.cell_ 6 rfl
                    have y0 := hy.cell_ 0 rfl
                    have y1 := hy.cell_ 1 rfl
                    have y2 := hy.cell_ 2 rfl
                    have y3 := hy.cell_ 3 rfl
                    have y4 := hy.cell_ 4 rfl
                    have y5 := hy.cell_ 5 rfl
                    have y6 := hy.cell_ 6 rfl
                    cases htg : togB s.p a e
                    · go_wp2_with fail
                      refine wp_region_quiet (C := fun w' => ∃ u : Since W, w' = u.w) (by kernel_rfl) (by kernel_rfl) (Since.start W) ?_
                      dsimp only
                      have y_c0 := Since.cell c0
                      have y_c1 := Since.cell c1
                      have y_c2 := Since.cell c2
                      have y_c3 := Since.cell c3
                      have y_c4 := Since.cell c4
                      have y_c5 := Since.cell c5
                      have y_a0 := Since.cell a0
                      have y_a1 := Since.cell a1
                      have y_a2 := Since.cell a2
                      have y_a3 := Since.cell a3
                      have y_a4 := Since.cell a4
                      have y_a5 := Since.cell a5
                      have y_a6 := Since.cell a6
                      have y_y0 := Since.cell y0
                      have y_y1 := Since.cell y1
                      have y_y2 := Since.cell y2
                      have y_y3 := Since.cell y3
                      have y_y4 := Since.cell y4
                      have y_y5 := Since.cell y5
                      have y_y6 := Since.cell y6
                      clear c0 c1 c2 c3 c4 c5 a0 a1 a2 a3 a4 a5 a6 y0 y1 y2 y3 y4 y5 y6
                      repeat (go_big_quiet_step ((fail)))
                      refine wpQuiet_nil ?_
                      rintro W ⟨⟨_, hb⟩, rfl⟩
                      try dsimp only at hb ⊢
                      clear y_c0 y_c1 y_c2 y_c3 y_c4 y_c5 y_a0 y_a1 y_a2 y_a3 y_a4 y_a5 y_a6 y_y0 y_y1 y_y2 y_y3 y_y4 y_y5 y_y6
                      replace hk := hk.below hb hk.lt
                      replace hL := (hL.below hb).more hb.size
                      replace hx := hx.below hb hx.lt
                      replace hR := (hR.below hb).more hb.size
                      replace hy := hy.below hb hy.lt
                      replace hB := hB.trans (hb.mono hB.size)
                      clear hb
                      have c0 := hk.cell_ 0 rfl
                      have c1 := hk.cell_ 1 rfl
                      have c2 := hk.cell_ 2 rfl
                      have c3 := hk.cell_ 3 rfl
                      have c4 := hk.cell_ 4 rfl
                      have c5 := hk.cell_ 5 rfl
                      have a0 := hx.cell_ 0 rfl
                      have a1 := hx.cell_ 1 rfl
                      have a2 := hx.cell_ 2 rfl
                      have a3 := hx.cell_ 3 rfl
                      have a4 := hx.cell_ 4 rfl
                      have a5 := hx.cell_ 5 rfl
                      have a6 := hx.cell_ 6 rfl
                      have y0 := hy.cell_ 0 rfl
                      have y1 := hy.cell_ 1 rfl
                      have y2 := hy.cell_ 2 rfl
                      have y3 := hy.cell_ 3 rfl
                      have y4 := hy.cell_ 4 rfl
                      have y5 := hy.cell_ 5 rfl
                      have y6 := hy.cell_ 6 rfl
                      go_wp2_with fail
                      go_ret3
                      exact ⟨ret_eq (by rw [HJ2.out]; unfold judgeL; rw [HS0.out, HS1.out, HS.out, HST.out, HS3.out, HSE.out, htg]; rfl), hB⟩
                    · go_wp2_with fail
                      go_roundw
                      case rel => exact ⟨j + 1, by go_num, by omega, (by show _ = _; rw [HS3.out, HSE.out, htg]; rfl), hk, hL, hx, hR, hB⟩
                      case measure => simp [intOf]; omega
                  · have hjz : ¬ ((j : Int) < ((L.length - (i + 1) : Nat) : Int)) := by omega
                    have HS4 : Hid ((L.drop (i + 1)).all (togB s.p a) = true) := by show _ = _; rw [HS3.out, List.drop_eq_nil_of_le (by omega)]; rfl
                    go_wp2_with fail
                    go_roundw
                    case rel => exact ⟨i + 1, by go_num, by omega, (by show _ = _; rw [HS.out, HST.out, HS4.out]; rfl), hk, hL, hB⟩
                    case measure => simp [intOf]; omega
            · obtain rfl : i = L.length := by omega
              have HS2 : Hid (clashBad s.p L = none) := by show _ = _; rw [HS.out, nomore]; rfl
              go_wp2_with fail
              go_ret3
              exact ⟨ret_eq (by rw [HJ2.out]; unfold judgeL; rw [HS0.out, HS1.out, HS2.out]; rfl), hB⟩
end Go.Proofs.Ytcpnfcnobnjhdaa

/- Whether a plan is wide; Judge of package shop: the walks. -/
namespace Go.Proofs.Ytcpnfcnobnjhdaa
open Go.RowKit
def wideB (pl : List (List Int)) : Bool := decide (30 < pl.length) || pl.any fun l => decide (20 < l.length)
set_option maxRecDepth 100000 in
theorem wide_any (A : Option Addr) (c : Nat) (pl : List (List Int)) (w : World) (hP : Plan w w.heap.size A pl) (hf : PFits pl) :
    Calls Try.prog 36 #[.slice A pl.length c] w fun e w' => e = .returned (.bool (wideB pl)) ∧ Below w.heap.size w w' := by
  have hf1 := hf.h1
  have HV : Hid (wideB pl = (decide (30 < pl.length) || pl.any fun l => decide (20 < l.length))) := rfl
  by_cases hbig : 30 < pl.length
  · have hbz : (30 : Int) < (pl.length : Int) := by omega
    go_enter Try.func36, Try.ntmps36
    go_wp2_with fail
    go_ret
    exact ⟨ret_bool (by rw [HV.out, decide_eq_true hbig]; rfl), Below.refl _ _⟩
  · have hbz : ¬ (30 : Int) < (pl.length : Int) := by omega
    have HV2 : Hid (wideB pl = pl.any fun l => decide (20 < l.length)) := by show _ = _; rw [HV.out, decide_eq_false hbig]; rfl
    clear HV
    go_enter Try.func36, Try.ntmps36
    go_wp2_with fail
    go_loopw [3] (fun x W => ∃ i : Nat, x = .int .i64 i ∧ i ≤ pl.length ∧ Hid (wideB pl = (pl.drop i).any fun l => decide (20 < l.length)) ∧ Below w.heap.size w W) (fun x _ => pl.length - (intOf x).toNat)
    case atStart => exact ⟨0, rfl, Nat.zero_le _, HV2, Below.refl _ _⟩
    case round =>
      obtain ⟨i, rfl, hi, HS, hB⟩ := hrel
      by_cases hlt : i < pl.length
      · obtain ⟨l, hl⟩ : ∃ l, pl[i]? = some l := ⟨_, List.getElem?_eq_getElem hlt⟩
        obtain ⟨b, off, A', c', rfl, hb0, hc, _⟩ := plan_at (hP.on hB) hl
        have hll := hf.h2 l (List.mem_of_getElem? hl)
        have HST := hide (any_drop (f := fun l : List Int => decide (20 < l.length)) hl)
        clear hl
        by_cases h20 : 20 < l.length
        · have hz : (20 : Int) < (l.length : Int) := by omega
          go_wp2_with fail
          go_ret
          exact ⟨ret_bool (by rw [HS.out, HST.out, decide_eq_true h20]; rfl), hB⟩
        · have hz : ¬ (20 : Int) < (l.length : Int) := by omega
          go_wp2_with fail
          go_roundw
          case rel => exact ⟨i + 1, by go_num, by omega, (by show _ = _; rw [HS.out, HST.out, decide_eq_false h20]; rfl), hB⟩
          case measure => simp [intOf]; omega
      · obtain rfl : i = pl.length := by omega
        go_wp2_with fail
        go_ret
        exact ⟨ret_bool (by rw [HS.out, nomore]; rfl), hB⟩
theorem apiJudge_any (s : Sh) (A : Option Addr) (c : Nat) (pl : List (List Int)) (w : World) (hS : ShAt w w.heap.size s) (hvB : validShop s.p = true) (hP : Plan w w.heap.size A pl) (hf : PFits pl) :
    Calls Try.prog 37 #[.agg #[.int .i64 s.p.op, .int .i64 s.p.cl, .slice s.aH s.p.hol.length s.cH, .int .i64 s.p.mach, .slice s.aS s.p.setup.length s.cS, .slice s.aJ s.p.jobs.length s.cJ], .slice A pl.length c] w (JPost s.p pl w) := by
  have hv := valid_facts hvB
  have hfs := hv.fits
  have hk := Blk.new w 25 #[.int .i64 s.p.op, .int .i64 s.p.cl, .slice s.aH s.p.hol.length s.cH, .int .i64 s.p.mach, .slice s.aS s.p.setup.length s.cS, .slice s.aJ s.p.jobs.length s.cJ]
  have hB := (Below.refl w.heap.size w).alloc (Nat.le_refl _) (.cells #[.int .i64 s.p.op, .int .i64 s.p.cl, .slice s.aH s.p.hol.length s.cH, .int .i64 s.p.mach, .slice s.aS s.p.setup.length s.cS, .slice s.aJ s.p.jobs.length s.cJ] 25)
  go_enter Try.func37, Try.ntmps37
  go_wp2_with fail
  generalize w.alloc (.cells #[.int .i64 s.p.op, .int .i64 s.p.cl, .slice s.aH s.p.hol.length s.cH, .int .i64 s.p.mach, .slice s.aS s.p.setup.length s.cS, .slice s.aJ s.p.jobs.length s.cJ] 25) = W at *
  have c0 := hk.cell_ 0 rfl
  have c1 := hk.cell_ 1 rfl
  have c2 := hk.cell_ 2 rfl
  have c3 := hk.cell_ 3 rfl
  have c4 := hk.cell_ 4 rfl
  have c5 := hk.cell_ 5 rfl
  go_wp2_with fail
  refine (valid_any s _ (hS.on hB) hfs.h1 hfs.h2 hfs.h3 hfs.h4).mono ?_
  rintro e W ⟨rfl, hb⟩
  clear c0 c1 c2 c3 c4 c5
  replace hk := hk.below hb hk.lt
  replace hB := hB.trans (hb.mono hB.size)
  clear hb
  have c0 := hk.cell_ 0 rfl
  have c1 := hk.cell_ 1 rfl
  have c2 := hk.cell_ 2 rfl
  have c3 := hk.cell_ 3 rfl
  have c4 := hk.cell_ 4 rfl
  have c5 := hk.cell_ 5 rfl
  rw [hvB]
  have HV3 : Hid (V3 (judgeF s.p pl) = .tuple #[.int .i64 (judgeF s.p pl).1, .int .i64 (judgeF s.p pl).2.1, .int .i64 (judgeF s.p pl).2.2]) := rfl
  go_wp2_with fail
  refine (judge_any s A c pl _ (hS.on hB) hv (hP.on hB) hf).mono ?_
  rintro e W ⟨rfl, hb⟩
  clear c0 c1 c2 c3 c4 c5
  replace hk := hk.below hb hk.lt
  replace hB := hB.trans (hb.mono hB.size)
  clear hb
  have c0 := hk.cell_ 0 rfl
  have c1 := hk.cell_ 1 rfl
  have c2 := hk.cell_ 2 rfl
  have c3 := hk.cell_ 3 rfl
  have c4 := hk.cell_ 4 rfl
  have c5 := hk.cell_ 5 rfl
  rw [HV3.out]
  go_wp2_with fail
  go_ret3
  exact ⟨ret_eq HV3.out.symm, hB⟩
end Go.Proofs.Ytcpnfcnobnjhdaa

/- Whether two plans are equal: the walk, for equal plans. -/
namespace Go.Proofs.Ytcpnfcnobnjhdaa
open Go.RowKit
set_option maxRecDepth 100000 in
theorem samePlan_any (A1 A2 : Option Addr) (c1 c2 : Nat) (pl : List (List Int)) (w : World) (h1 : Plan w w.heap.size A1 pl) (h2 : Plan w w.heap.size A2 pl) (hf : PFits pl) :
    Calls Try.prog 34 #[.slice A1 pl.length c1, .slice A2 pl.length c2] w fun e w' => e = .returned (.bool true) ∧ Below w.heap.size w w' := by
  have hf1 := hf.h1
  have hB : Below w.heap.size w w := Below.refl _ _
  go_enter Try.func34, Try.ntmps34
  go_wp2_with fail
  generalize hWw : w = W at hB ⊢
  subst hWw
  go_loopw [5] (fun x W => ∃ i : Nat, x = .int .i64 i ∧ i ≤ pl.length ∧ Below w.heap.size w W) (fun x _ => pl.length - (intOf x).toNat)
  case atStart => exact ⟨0, rfl, Nat.zero_le _, hB⟩
  case round =>
    clear hB
    obtain ⟨W, rfl⟩ : ∃ W : World, W = wr := ⟨_, rfl⟩
    obtain ⟨i, rfl, hi, hB⟩ := hrel
    by_cases hlt : i < pl.length
    · obtain ⟨l, hl⟩ : ∃ l, pl[i]? = some l := ⟨_, List.getElem?_eq_getElem hlt⟩
      have hll := hf.h2 l (List.mem_of_getElem? hl)
      obtain ⟨b, off, A', c', rfl, hb0, hc, hS1⟩ := plan_at (h1.on hB) hl
      obtain ⟨b', off', A2', c2', rfl, hb0', hc', hS2⟩ := plan_at (h2.on hB) hl
      have HL := hide hl
      clear hl
      have hii : (i : Int) < (pl.length : Int) := by omega
      go_wp2_with fail
      refine wp_region_quiet (C := fun w' => ∃ u : Since W, w' = u.w) (by kernel_rfl) (by kernel_rfl) (Since.start W) ?_
      dsimp only
      have y_hc := Since.cell hc
      have y_hc' := Since.cell hc'
      repeat (go_big_quiet_step ((fail)))
      refine wpQuiet_nil ?_
      rintro W ⟨⟨_, hb⟩, rfl⟩
      try dsimp only at hb ⊢
      replace hc : W.cell? _ = _ := y_hc ⟨W, hb⟩
      replace hc' : W.cell? _ = _ := y_hc' ⟨W, hb⟩
      clear y_hc y_hc'
      replace hB := hB.trans (hb.mono hB.size)
      clear hb
      have HS1 := hide hS1
      have HS2 := hide hS2
      go_wp2_with fail
      clear hc hc'
      go_loopw [6] (fun x W => ∃ k : Nat, x = .int .i64 k ∧ k ≤ l.length ∧ Below w.heap.size w W) (fun x _ => l.length - (intOf x).toNat)
      case atStart => exact ⟨0, rfl, Nat.zero_le _, hB⟩
      case round =>
        clear hB HS1 HS2 hS1 hS2
        obtain ⟨W, rfl⟩ : ∃ W : World, W = wr := ⟨_, rfl⟩
        obtain ⟨k, rfl, hk, hB⟩ := hrel
        obtain ⟨b1, off1, A3, c3, hA1, _, hc, hS1⟩ := plan_at (h1.on hB) HL.out
        obtain ⟨b2, off2, A4, c4, hA2, _, hc', hS2⟩ := plan_at (h2.on hB) HL.out
        injection hA1 with hA1
        injection hA1 with e1 e2
        subst e1 e2
        injection hA2 with hA2
        injection hA2 with e1 e2
        subst e1 e2
        by_cases hlt2 : k < l.length
        · obtain ⟨n, hn⟩ : ∃ n, l[k]? = some n := ⟨_, List.getElem?_eq_getElem hlt2⟩
          obtain ⟨b3, off3, hA3, _, d1⟩ := int_at hS1 hn
          obtain ⟨b4, off4, hA4, _, d2⟩ := int_at hS2 hn
          subst hA3 hA4
          clear hn
          have hki : (k : Int) < (l.length : Int) := by omega
          go_wp2_with fail
          go_wp2_with fail
          refine wp_region_quiet (C := fun w' => ∃ u : Since W, w' = u.w) (by kernel_rfl) (by kernel_rfl) (Since.start W) ?_
          dsimp only
          have y_hc := Since.cell hc
          have y_hc' := Since.cell hc'
          have y_d1 := Since.cell d1
          have y_d2 := Since.cell d2
          repeat (go_big_quiet_step ((fail)))
          refine wpQuiet_nil ?_
          rintro W ⟨⟨_, hb⟩, rfl⟩
          try dsimp only at hb ⊢
          replace hc : W.cell? _ = _ := y_hc ⟨W, hb⟩
          replace hc' : W.cell? _ = _ := y_hc' ⟨W, hb⟩
          replace d1 : W.cell? _ = _ := y_d1 ⟨W, hb⟩
          replace d2 : W.cell? _ = _ := y_d2 ⟨W, hb⟩
          clear y_hc y_hc' y_d1 y_d2
          replace hB := hB.trans (hb.mono hB.size)
          clear hb
          go_wp2_with fail
          go_roundw
          case rel => exact ⟨k + 1, by go_num, by omega, hB⟩
          case measure => simp [intOf]; omega
        · obtain rfl : k = l.length := by omega
          go_wp2_with fail
          go_roundw
          case rel => exact ⟨i + 1, by go_num, by omega, hB⟩
          case measure => simp [intOf]; omega
    · obtain rfl : i = pl.length := by omega
      go_wp2_with fail
      go_ret
      exact ⟨rfl, hB⟩
end Go.Proofs.Ytcpnfcnobnjhdaa
