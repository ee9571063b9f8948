/- Parts of the proofs of this seat: Wide, OpenPlan, StabP, StabAt. Each part says what it proves; no condition beyond those stated there. -/
import Derived.Sort.Lot0
import Derived.Test.YtcpnfcnobnjhdaaProg
import Derived.WalkKit
import Derived.Shelf.SlSortCmp.InsertionK
import Derived.Test.YtcpnfcnobnjhdaaA4

/- Whether a plan is wide; Judge of package shop: the walks. -/
namespace Go.Proofs.Ytcpnfcnobnjhdaa
open Go.RowKit
def wideB (pl : List (List Int)) : Bool := decide (30 < pl.length) || pl.any fun l => decide (20 < l.length)
set_option maxRecDepth 100000 in
theorem wide_any (A : Option Addr) (c : Nat) (pl : List (List Int)) (w : World) (hP : Plan w w.heap.size A pl) (hf : PFits pl) :
    Calls Try.prog 36 #[.slice A pl.length c] w fun e w' => e = .returned (.bool (wideB pl)) ∧ Below w.heap.size w w' := by
  have hf1 := hf.h1
  have HV : Hid (wideB pl = (decide (30 < pl.length) || pl.any fun l => decide (20 < l.length))) := rfl
  by_cases hbig : 30 < pl.length
  · have hbz : (30 : Int) < (pl.length : Int) := by omega
    go_enter Try.func36, Try.ntmps36
    go_wp2_with fail
    go_ret
    exact ⟨ret_bool (by rw [HV.out, decide_eq_true hbig]; rfl), Below.refl _ _⟩
  · have hbz : ¬ (30 : Int) < (pl.length : Int) := by omega
    have HV2 : Hid (wideB pl = pl.any fun l => decide (20 < l.length)) := by show _ = _; rw [HV.out, decide_eq_false hbig]; rfl
    clear HV
    go_enter Try.func36, Try.ntmps36
    go_wp2_with fail
    go_loopw [3] (fun x W => ∃ i : Nat, x = .int .i64 i ∧ i ≤ pl.length ∧ Hid (wideB pl = (pl.drop i).any fun l => decide (20 < l.length)) ∧ Below w.heap.size w W) (fun x _ => pl.length - (intOf x).toNat)
    case atStart => exact ⟨0, rfl, Nat.zero_le _, HV2, Below.refl _ _⟩
    case round =>
      obtain ⟨i, rfl, hi, HS, hB⟩ := hrel
      by_cases hlt : i < pl.length
      · obtain ⟨l, hl⟩ : ∃ l, pl[i]? = some l := ⟨_, List.getElem?_eq_getElem hlt⟩
        obtain ⟨b, off, A', c', rfl, hb0, hc, _⟩ := plan_at (hP.on hB) hl
        have hll := hf.h2 l (List.mem_of_getElem? hl)
        have HST := hide (any_drop (f := fun l : List Int => decide (20 < l.length)) hl)
        clear hl
        by_cases h20 : 20 < l.length
        · have hz : (20 : Int) < (l.length : Int) := by omega
          go_wp2_with fail
          go_ret
          exact ⟨ret_bool (by rw [HS.out, HST.out, decide_eq_true h20]; rfl), hB⟩
        · have hz : ¬ (20 : Int) < (l.length : Int) := by omega
          go_wp2_with fail
          go_roundw
          case rel => exact ⟨i + 1, by go_num, by omega, (by show _ = _; rw [HS.out, HST.out, decide_eq_false h20]; rfl), hB⟩
          case measure => simp [intOf]; omega
      · obtain rfl : i = pl.length := by omega
        go_wp2_with fail
        go_ret
        exact ⟨ret_bool (by rw [HS.out, nomore]; rfl), hB⟩
theorem apiJudge_any (s : Sh) (A : Option Addr) (c : Nat) (pl : List (List Int)) (w : World) (hS : ShAt w w.heap.size s) (hvB : validShop s.p = true) (hP : Plan w w.heap.size A pl) (hf : PFits pl) :
    Calls Try.prog 37 #[.agg #[.int .i64 s.p.op, .int .i64 s.p.cl, .slice s.aH s.p.hol.length s.cH, .int .i64 s.p.mach, .slice s.aS s.p.setup.length s.cS, .slice s.aJ s.p.jobs.length s.cJ], .slice A pl.length c] w (JPost s.p pl w) := by
  have hv := valid_facts hvB
  have hfs := hv.fits
  have hk := Blk.new w 25 #[.int .i64 s.p.op, .int .i64 s.p.cl, .slice s.aH s.p.hol.length s.cH, .int .i64 s.p.mach, .slice s.aS s.p.setup.length s.cS, .slice s.aJ s.p.jobs.length s.cJ]
  have hB := (Below.refl w.heap.size w).alloc (Nat.le_refl _) (.cells #[.int .i64 s.p.op, .int .i64 s.p.cl, .slice s.aH s.p.hol.length s.cH, .int .i64 s.p.mach, .slice s.aS s.p.setup.length s.cS, .slice s.aJ s.p.jobs.length s.cJ] 25)
  go_enter Try.func37, Try.ntmps37
  go_wp2_with fail
  generalize w.alloc (.cells #[.int .i64 s.p.op, .int .i64 s.p.cl, .slice s.aH s.p.hol.length s.cH, .int .i64 s.p.mach, .slice s.aS s.p.setup.length s.cS, .slice s.aJ s.p.jobs.length s.cJ] 25) = W at *
  have c0 := hk.cell_ 0 rfl
  have c1 := hk.cell_ 1 rfl
  have c2 := hk.cell_ 2 rfl
  have c3 := hk.cell_ 3 rfl
  have c4 := hk.cell_ 4 rfl
  have c5 := hk.cell_ 5 rfl
  go_wp2_with fail
  refine (valid_any s _ (hS.on hB) hfs.h1 hfs.h2 hfs.h3 hfs.h4).mono ?_
  rintro e W ⟨rfl, hb⟩
  clear c0 c1 c2 c3 c4 c5
  replace hk := hk.below hb hk.lt
  replace hB := hB.trans (hb.mono hB.size)
  clear hb
  have c0 := hk.cell_ 0 rfl
  have c1 := hk.cell_ 1 rfl
  have c2 := hk.cell_ 2 rfl
  have c3 := hk.cell_ 3 rfl
  have c4 := hk.cell_ 4 rfl
  have c5 := hk.cell_ 5 rfl
  rw [hvB]
  have HV3 : Hid (V3 (judgeF s.p pl) = .tuple #[.int .i64 (judgeF s.p pl).1, .int .i64 (judgeF s.p pl).2.1, .int .i64 (judgeF s.p pl).2.2]) := rfl
  go_wp2_with fail
  refine (judge_any s A c pl _ (hS.on hB) hv (hP.on hB) hf).mono ?_
  rintro e W ⟨rfl, hb⟩
  clear c0 c1 c2 c3 c4 c5
  replace hk := hk.below hb hk.lt
  replace hB := hB.trans (hb.mono hB.size)
  clear hb
  have c0 := hk.cell_ 0 rfl
  have c1 := hk.cell_ 1 rfl
  have c2 := hk.cell_ 2 rfl
  have c3 := hk.cell_ 3 rfl
  have c4 := hk.cell_ 4 rfl
  have c5 := hk.cell_ 5 rfl
  rw [HV3.out]
  go_wp2_with fail
  go_ret3
  exact ⟨ret_eq HV3.out.symm, hB⟩
end Go.Proofs.Ytcpnfcnobnjhdaa

/- Opener of plans. -/
namespace Go.Proofs.Ytcpnfcnobnjhdaa
open Go.RowKit Go.ChangeShapes Go.WideShapes
def IsPlan (w : World) (cs : List Value) : Prop := ∃ A c, ∃ pl : List (List Int), cs = [.slice A pl.length c] ∧ pl.length ≤ maxLen ∧ Plan w w.heap.size A pl ∧ ∀ l ∈ pl, l.length ≤ maxLen
theorem o_plan : Opens Try.prog 44 1 IsPlan := by
  refine (opens_slice Try.underlying44 (by kernel_rfl) (by omega) o_ints).imp fun w cs h => ?_
  obtain ⟨A, len, cap, rfl, hl, hi⟩ := h
  obtain ⟨js, hx, hp⟩ := list_of (fun i (l : List Int) => l.length ≤ maxLen ∧ ∃ b off A' c', A = some ⟨b, off, none⟩ ∧ b < w.heap.size ∧ w.cell? ⟨b, off + i, none⟩ = some (.slice A' l.length c') ∧ Slc intEnc 1 w w.heap.size A' l) len fun i hil => by
    obtain ⟨vs, ⟨b, off, hA, hb, hc⟩, A', c', l, rfl, hl, hS, _⟩ := hi i hil
    exact ⟨l, hl, b, off, A', c', hA, hb, by simpa using hc 0 _ rfl, hS⟩
  subst hx
  refine ⟨A, cap, js, rfl, hl, fun i l hli => (hp i l hli).2, fun l hl => ?_⟩
  obtain ⟨i, hi⟩ := List.getElem?_of_mem hl
  exact (hp i l hi).1
set_option maxRecDepth 100000 in
theorem arg_plan {r : Reach} {b0 : Nat} {H : Type} {enc : TypeId × Value → H} {w : World} {base : Nat} {spare : Nat → Bool} {held : Bool} {v : Value} {d : DataW H} {p : List MemPlace} (hv : Value.okWide Try.prog w r b0 44 v) (h : DataW.Trod enc Try.prog w base spare held 44 v d p) :
    ∃ A c, ∃ pl : List (List Int), v = .slice A pl.length c ∧ Plan w w.heap.size A pl ∧ PFits pl := by
  obtain ⟨a, len, cap, rfl⟩ := okWide_slice Try.underlying44 hv
  obtain ⟨A, c, pl, h1, h2, h3, h4⟩ := (opens_arg o_plan h).2
  unfold maxLen at h2 h4
  refine ⟨A, c, pl, by simpa [Value.cells] using h1, h3, ⟨by omega, fun l hl => by have := h4 l hl; omega⟩⟩
end Go.Proofs.Ytcpnfcnobnjhdaa

/- The library's stable sort: the plain law. Elements bear tags: their first places. -/
namespace Go.Proofs.Ytcpnfcnobnjhdaa
open Go.Sort
section
variable {α : Type} (lt : α → α → Bool)
/-- less, or not greater and earlier -/
def TL (x y : α × Nat) : Prop := lt x.1 y.1 = true ∨ (lt y.1 x.1 = false ∧ x.2 < y.2)
def ltT (x y : α × Nat) : Bool := lt x.1 y.1
variable {lt}
theorem TL.trans (h : SWO lt) {x y z : α × Nat} (h1 : TL lt x y) (h2 : TL lt y z) : TL lt x z := by
  rcases h1 with h1 | ⟨h1, t1⟩ <;> rcases h2 with h2 | ⟨h2, t2⟩
  · exact .inl (h.trans _ _ _ h1 h2)
  · left
    cases hc : lt x.1 z.1
    · rw [h.ntrans _ _ _ hc h2] at h1; cases h1
    · rfl
  · left
    cases hc : lt x.1 z.1
    · rw [h.ntrans _ _ _ h1 hc] at h2; cases h2
    · rfl
  · exact .inr ⟨h.ntrans _ _ _ h2 h1, by omega⟩
theorem SWO.asymm (h : SWO lt) {x y : α} (hl : lt x y = true) : lt y x = false := by
  cases hc : lt y x
  · rfl
  · have := h.trans _ _ _ hl hc; rw [h.irrefl] at this; cases this
theorem TL.irrefl (h : SWO lt) (x : α × Nat) : ¬ TL lt x x := by
  rintro (h1 | ⟨_, h2⟩)
  · rw [h.irrefl] at h1; cases h1
  · omega
/-- an earlier one beside a later one -/
theorem TL.early {x y : α × Nat} (ht : x.2 < y.2) (hl : lt y.1 x.1 = false) : TL lt x y := .inr ⟨hl, ht⟩
theorem TL.late {x y : α × Nat} (hl : lt y.1 x.1 = true) : TL lt y x := .inl hl
theorem TL.early_iff (h : SWO lt) {x y : α × Nat} (hx : TL lt x y) : lt y.1 x.1 = false := by
  rcases hx with h1 | ⟨h1, _⟩
  · exact SWO.asymm h h1
  · exact h1
theorem TL.late_iff {x y : α × Nat} (ht : x.2 < y.2) (hx : TL lt y x) : lt y.1 x.1 = true := by
  rcases hx with h1 | ⟨_, h1⟩
  · exact h1
  · omega

variable [Inhabited α]
variable (lt)
def TS (a b : Nat) (d : Array (α × Nat)) : Prop := ∀ i j, a ≤ i → i < j → j < b → TL lt d[i]! d[j]!
variable {lt}
/-! insertion -/
theorem ins_inner (h : SWO lt) (a i : Nat) : ∀ (j : Nat) (d : Array (α × Nat)), i < d.size → a ≤ j → j ≤ i →
    (∀ p q, a ≤ p → p < q → q ≤ i → p ≠ j → q ≠ j → TL lt d[p]! d[q]!) → (∀ q, j < q → q ≤ i → TL lt d[j]! d[q]!) → (∀ p, a ≤ p → p < j → d[p]!.2 < d[j]!.2) →
    TS lt a (i + 1) (insInner (ltT lt) a j d)
  | 0, d, hs, ha, hj, h1, h2, h3 => by
    intro p q hp hpq hq
    show TL lt d[p]! d[q]!
    by_cases e : p = 0
    · subst e; exact h2 q hpq (by omega)
    · exact h1 p q hp hpq (by omega) e (by omega)
  | j + 1, d, hs, ha, hj, h1, h2, h3 => by
    unfold insInner
    by_cases hc : (decide (j + 1 > a) && ltT lt d[j + 1]! d[j]!) = true
    · rw [if_pos hc]
      simp only [Bool.and_eq_true, decide_eq_true_eq] at hc
      obtain ⟨hja, hl⟩ := hc
      have e1 : (swp d (j + 1) j)[j]! = d[j + 1]! := swp_right d (j + 1) j (by omega)
      have e2 : (swp d (j + 1) j)[j + 1]! = d[j]! := swp_left d (j + 1) j (by omega) (by omega)
      have e3 : ∀ k, k ≠ j + 1 → k ≠ j → (swp d (j + 1) j)[k]! = d[k]! := fun k h1 h2 => swp_other d (j + 1) j k h1 h2
      refine ins_inner h a i j (swp d (j + 1) j) (by rw [size_swp]; exact hs) (by omega) (by omega) ?_ ?_ ?_
      · intro p q hp hpq hq hpj hqj
        by_cases ep : p = j + 1
        · subst ep
          rw [e2, e3 q (by omega) hqj]
          exact h1 j q (by omega) (by omega) hq (by omega) (by omega)
        · by_cases eq : q = j + 1
          · subst eq
            rw [e2, e3 p ep hpj]
            exact h1 p j hp (by omega) (by omega) (by omega) (by omega)
          · rw [e3 p ep hpj, e3 q eq hqj]
            exact h1 p q hp hpq hq ep eq
      · intro q hq1 hq2
        rw [e1]
        by_cases eq : q = j + 1
        · subst eq; rw [e2]; exact .inl hl
        · rw [e3 q eq (by omega)]; exact h2 q (by omega) hq2
      · intro p hp hpj
        rw [e1, e3 p (by omega) (by omega)]
        exact h3 p hp (by omega)
    · rw [if_neg hc]
      have hl : a ≤ j → TL lt d[j]! d[j + 1]! := fun haj => by
        refine TL.early (h3 j haj (by omega)) ?_
        cases hl : lt d[j + 1]!.1 d[j]!.1
        · rfl
        · exact absurd (by simp only [Bool.and_eq_true, decide_eq_true_eq]; exact ⟨by omega, hl⟩) hc
      intro p q hp hpq hq
      by_cases ep : p = j + 1
      · subst ep; exact h2 q hpq (by omega)
      · by_cases eq : q = j + 1
        · subst eq
          by_cases epj : p = j
          · subst epj; exact hl hp
          · exact (h1 p j hp (by omega) (by omega) (by omega) (by omega)).trans h (hl (by omega))
        · exact h1 p q hp hpq (by omega) ep eq
theorem ins_inner_perm (a : Nat) : ∀ (j : Nat) (d : Array (α × Nat)) (b : Nat), j < b → b ≤ d.size → a ≤ j → PermIn a b d (insInner (ltT lt) a j d)
  | 0, d, b, _, _, _ => permIn_refl d a b
  | j + 1, d, b, hj, hb, ha => by
    unfold insInner
    split
    · rename_i hc
      simp only [Bool.and_eq_true, decide_eq_true_eq] at hc
      exact permIn_trans _ _ _ _ _ (swp_permIn d a b (j + 1) j (by omega) (by omega) (by omega) (by omega) hb) (ins_inner_perm a j _ b (by omega) (by rw [size_swp]; exact hb) (by omega))
    · exact permIn_refl d a b
theorem PermIn.out {a b : Nat} {d d' : Array α} (h : PermIn a b d d') {i : Nat} (hi : i < a ∨ b ≤ i) : d'[i]! = d[i]! := h.2.1 i hi
theorem ins_outer (h : SWO lt) (a b : Nat) : ∀ (n i : Nat) (d : Array (α × Nat)), n = b - i → a ≤ i → i ≤ b → b ≤ d.size → TS lt a i d → (∀ p q, a ≤ p → p < q → i ≤ q → q < b → d[p]!.2 < d[q]!.2) →
    TS lt a b (insOuter (ltT lt) a b i d) ∧ PermIn a b d (insOuter (ltT lt) a b i d)
  | 0, i, d, hn, ha, hi, hb, hs, ht => by
    rw [insOuter, if_neg (by omega)]
    have : i = b := by omega
    subst this
    exact ⟨hs, permIn_refl d a i⟩
  | n + 1, i, d, hn, ha, hi, hb, hs, ht => by
    rw [insOuter, if_pos (by omega)]
    have hp0 := ins_inner_perm (lt := lt) a i d (i + 1) (by omega) (by omega) ha
    have hp := permIn_mono d _ a (i + 1) a b (Nat.le_refl _) (by omega) hb hp0
    have h1 := ins_inner h a i i d (by omega) ha (Nat.le_refl _) (fun p q hp hpq hq hpi hqi => hs p q hp hpq (by omega)) (fun q h1 h2 => by omega) (fun p hp hpi => ht p i hp hpi (Nat.le_refl _) (by omega))
    obtain ⟨h2, h3⟩ := ins_outer h a b n (i + 1) _ (by omega) (by omega) (by omega) (by rw [hp.1]; exact hb) h1 (fun p q hpa hpq hq hqb => by
      rw [PermIn.out hp0 (i := q) (.inr hq)]
      by_cases hpi : i + 1 ≤ p
      · rw [PermIn.out hp0 (i := p) (.inr hpi)]; exact ht p q hpa hpq (by omega) hqb
      · exact permIn_all d _ a (i + 1) (fun x => x.2 < d[q]!.2) (by omega) hp0 (fun k hk1 hk2 => ht k q hk1 (by omega) (by omega) hqb) p hpa (by omega))
    exact ⟨h2, permIn_trans _ _ _ _ _ hp h3⟩
/-- THE LAW of insertionSortCmpFunc -/
theorem ins_sorted (h : SWO lt) {a b : Nat} {d : Array (α × Nat)} (hab : a ≤ b) (hb : b ≤ d.size) (ht : ∀ p q, a ≤ p → p < q → q < b → d[p]!.2 < d[q]!.2) :
    TS lt a b (insertionSort (ltT lt) d a b) ∧ PermIn a b d (insertionSort (ltT lt) d a b) := by
  unfold insertionSort
  by_cases h0 : a = b
  · subst h0
    rw [insOuter, if_neg (by omega)]
    exact ⟨fun i j h1 h2 h3 => by omega, permIn_refl d a a⟩
  · exact ins_outer h a b (b - (a + 1)) (a + 1) d rfl (by omega) (by omega) hb (fun i j h1 h2 h3 => by omega) (fun p q h1 h2 h3 h4 => ht p q h1 h2 h4)
end

/-! runs of exchanges -/
section
variable {β : Type} [Inhabited β]
theorem swp_val (d : Array β) {i j : Nat} (hi : i < d.size) (hj : j < d.size) (k : Nat) : (swp d i j)[k]! = if k = j then d[i]! else if k = i then d[j]! else d[k]! := by
  by_cases h1 : k = j
  · subst h1; rw [if_pos rfl]; exact swp_right d i k hj
  · rw [if_neg h1]
    by_cases h2 : k = i
    · subst h2; rw [if_pos rfl]; exact swp_left d k j hi (by omega)
    · rw [if_neg h2]; exact swp_other d i j k h2 h1
/-- the element at a goes up n places -/
def fwd (d : Array β) (a : Nat) : Nat → Array β
  | 0 => d
  | n + 1 => swp (fwd d a n) (a + n) (a + n + 1)
theorem fwd_size (d : Array β) (a : Nat) : ∀ n, (fwd d a n).size = d.size
  | 0 => rfl
  | n + 1 => by rw [fwd, size_swp, fwd_size]
theorem fwd_val (d : Array β) (a : Nat) : ∀ n, a + n < d.size → ∀ k, (fwd d a n)[k]! = if a ≤ k ∧ k < a + n then d[k + 1]! else if k = a + n then d[a]! else d[k]!
  | 0, h, k => by
    show d[k]! = _
    rw [if_neg (by omega)]
    split
    · rename_i h; rw [h]; rfl
    · rfl
  | n + 1, h, k => by
    rw [fwd, swp_val _ (by rw [fwd_size]; omega) (by rw [fwd_size]; omega)]
    rw [fwd_val d a n (by omega), fwd_val d a n (by omega), fwd_val d a n (by omega)]
    by_cases h1 : k = a + n + 1
    · rw [if_pos h1, if_neg (by omega), if_pos rfl, if_neg (by omega), if_pos (by omega)]
    · rw [if_neg h1]
      by_cases h2 : k = a + n
      · rw [if_pos h2, if_neg (by omega), if_neg (by omega), if_pos (by omega)]; rw [h2]
      · rw [if_neg h2]
        by_cases h3 : a ≤ k ∧ k < a + n
        · rw [if_pos h3, if_pos (by omega)]
        · rw [if_neg h3, if_neg h2, if_neg (by omega), if_neg (by omega)]
theorem fwd_perm (d : Array β) (a b : Nat) (hb : b ≤ d.size) : ∀ n, a + n < b → PermIn a b d (fwd d a n)
  | 0, _ => permIn_refl d a b
  | n + 1, h => permIn_trans _ _ _ _ _ (fwd_perm d a b hb n (by omega)) (swp_permIn _ a b _ _ (by omega) (by omega) (by omega) (by omega) (by rw [fwd_size]; exact hb))
/-- the element at m goes down n places -/
def bwd (d : Array β) (m : Nat) : Nat → Array β
  | 0 => d
  | n + 1 => swp (bwd d m n) (m - n) (m - n - 1)
theorem bwd_size (d : Array β) (m : Nat) : ∀ n, (bwd d m n).size = d.size
  | 0 => rfl
  | n + 1 => by rw [bwd, size_swp, bwd_size]
theorem bwd_val (d : Array β) (m : Nat) (hm : m < d.size) : ∀ n, n ≤ m → ∀ k, (bwd d m n)[k]! = if m - n < k ∧ k ≤ m then d[k - 1]! else if k = m - n then d[m]! else d[k]!
  | 0, h, k => by
    show d[k]! = _
    rw [if_neg (by omega)]
    split
    · rename_i h; rw [h]; rfl
    · rfl
  | n + 1, h, k => by
    rw [bwd, swp_val _ (by rw [bwd_size]; omega) (by rw [bwd_size]; omega)]
    rw [bwd_val d m hm n (by omega), bwd_val d m hm n (by omega), bwd_val d m hm n (by omega)]
    by_cases h1 : k = m - n - 1
    · rw [if_pos h1, if_neg (by omega), if_pos rfl, if_neg (by omega), if_pos (by omega)]
    · rw [if_neg h1]
      by_cases h2 : k = m - n
      · rw [if_pos h2, if_neg (by omega), if_neg (by omega), if_pos (by omega)]; rw [h2]
      · rw [if_neg h2]
        by_cases h3 : m - n < k ∧ k ≤ m
        · rw [if_pos h3, if_pos (by omega)]
        · rw [if_neg h3, if_neg h2, if_neg (by omega), if_neg (by omega)]
theorem bwd_perm (d : Array β) (a b m : Nat) (hb : b ≤ d.size) (hm : m < b) : ∀ n, a + n ≤ m → PermIn a b d (bwd d m n)
  | 0, _ => permIn_refl d a b
  | n + 1, h => permIn_trans _ _ _ _ _ (bwd_perm d a b m hb hm n (by omega)) (swp_permIn _ a b _ _ (by omega) (by omega) (by omega) (by omega) (by rw [bwd_size]; exact hb))
theorem bwd_step (d : Array β) {m p : Nat} (h : p + 1 ≤ m) : swp (bwd d m (m - (p + 1))) (p + 1) p = bwd d m (m - p) := by
  obtain ⟨n, hn⟩ : ∃ n, m - (p + 1) = n := ⟨_, rfl⟩
  rw [hn, show m - p = n + 1 by omega, bwd, show m - n = p + 1 by omega, show p + 1 - 1 = p by omega]
/-- swapRange -/
def swr (d : Array β) (a b : Nat) : Nat → Array β
  | 0 => d
  | n + 1 => swp (swr d a b n) (a + n) (b + n)
theorem swr_size (d : Array β) (a b : Nat) : ∀ n, (swr d a b n).size = d.size
  | 0 => rfl
  | n + 1 => by rw [swr, size_swp, swr_size]
theorem swr_val (d : Array β) (a b : Nat) : ∀ n, a + n ≤ b → b + n ≤ d.size → ∀ k, (swr d a b n)[k]! = if a ≤ k ∧ k < a + n then d[k + (b - a)]! else if b ≤ k ∧ k < b + n then d[k - (b - a)]! else d[k]!
  | 0, h, _, k => by
    show d[k]! = _
    rw [if_neg (by omega), if_neg (by omega)]
  | n + 1, h, h', k => by
    rw [swr, swp_val _ (by rw [swr_size]; omega) (by rw [swr_size]; omega)]
    rw [swr_val d a b n (by omega) (by omega), swr_val d a b n (by omega) (by omega), swr_val d a b n (by omega) (by omega)]
    by_cases h1 : k = b + n
    · rw [if_pos h1, if_neg (by omega), if_neg (by omega), if_neg (by omega), if_pos (by omega)]; congr 1; omega
    · rw [if_neg h1]
      by_cases h2 : k = a + n
      · rw [if_pos h2, if_neg (by omega), if_neg (by omega), if_pos (by omega)]; congr 1; omega
      · rw [if_neg h2]
        by_cases h3 : a ≤ k ∧ k < a + n
        · rw [if_pos h3, if_pos (by omega)]
        · rw [if_neg h3]
          by_cases h4 : b ≤ k ∧ k < b + n
          · rw [if_pos h4, if_neg (by omega), if_pos (by omega)]
          · rw [if_neg h4, if_neg (by omega), if_neg (by omega)]
theorem swr_perm (d : Array β) (a b lo hi : Nat) (hb : hi ≤ d.size) (h1 : lo ≤ a) : ∀ n, a + n ≤ hi → b + n ≤ hi → lo ≤ b → PermIn lo hi d (swr d a b n)
  | 0, _, _, _ => permIn_refl d lo hi
  | n + 1, h, h', h2 => permIn_trans _ _ _ _ _ (swr_perm d a b lo hi hb h1 n (by omega) (by omega) h2) (swp_permIn _ lo hi _ _ (by omega) (by omega) (by omega) (by omega) (by rw [swr_size]; exact hb))
/-- what lies at x when the parts from a and from m change places -/
def rotV (d : Array β) (a m b x : Nat) : β := if a ≤ x ∧ x < a + (b - m) then d[x + (m - a)]! else if a + (b - m) ≤ x ∧ x < b then d[x - (b - m)]! else d[x]!
theorem rot_left (d : Array β) {m i j : Nat} (hij : j < i) (him : i ≤ m) (hs : m + j ≤ d.size) (x : Nat) : rotV (swr d (m - i) m j) (m - (i - j)) m (m + j) x = rotV d (m - i) m (m + j) x := by
  have V := swr_val d (m - i) m j (by omega) (by omega)
  unfold rotV
  rw [V, V, V]
  repeat' split
  all_goals first | rfl | (exfalso; omega) | (congr 1; omega)
theorem rot_right (d : Array β) {m i j : Nat} (hij : i < j) (him : i ≤ m) (hs : m + j ≤ d.size) (x : Nat) : rotV (swr d (m - i) (m + j - i) i) (m - i) m (m + (j - i)) x = rotV d (m - i) m (m + j) x := by
  have V := swr_val d (m - i) (m + j - i) i (by omega) (by omega)
  unfold rotV
  rw [V, V, V]
  repeat' split
  all_goals first | rfl | (exfalso; omega) | (congr 1; omega)
theorem rot_same (d : Array β) {m i : Nat} (him : i ≤ m) (hs : m + i ≤ d.size) (x : Nat) : (swr d (m - i) m i)[x]! = rotV d (m - i) m (m + i) x := by
  rw [swr_val d (m - i) m i (by omega) (by omega)]
  unfold rotV
  repeat' split
  all_goals first | rfl | (exfalso; omega) | (congr 1; omega)
end

/-! merging -/
section
variable {α : Type} [Inhabited α] {lt : α → α → Bool}
/-- two ascending parts, the first one's elements all the earlier ones -/
structure Parts (lt : α → α → Bool) (a m b : Nat) (d : Array (α × Nat)) : Prop where
  left : TS lt a m d
  right : TS lt m b d
  tags : ∀ i j, a ≤ i → i < m → m ≤ j → j < b → d[i]!.2 < d[j]!.2
  am : a ≤ m
  mb : m ≤ b
  size : b ≤ d.size
theorem TS.le {a b : Nat} {d : Array (α × Nat)} (h : TS lt a b d) {i j : Nat} (h1 : a ≤ i) (h2 : i ≤ j) (h3 : j < b) : i = j ∨ TL lt d[i]! d[j]! := by
  rcases Nat.lt_or_ge i j with h4 | h4
  · exact .inr (h i j h1 h4 h3)
  · exact .inl (by omega)
theorem TL.then_le {α : Type} {lt : α → α → Bool} (hS : SWO lt) {x y z : α × Nat} (h : TL lt x y) (k : y = z ∨ TL lt y z) : TL lt x z := by
  rcases k with rfl | k
  · exact h
  · exact h.trans hS k
theorem TL.le_then {α : Type} {lt : α → α → Bool} (hS : SWO lt) {x y z : α × Nat} (k : x = y ∨ TL lt x y) (h : TL lt y z) : TL lt x z := by
  rcases k with rfl | k
  · exact h
  · exact k.trans hS h
theorem at_eq {d : Array (α × Nat)} {i j : Nat} (h : i = j ∨ TL lt d[i]! d[j]!) : d[i]! = d[j]! ∨ TL lt d[i]! d[j]! := by
  rcases h with rfl | h
  · exact .inl rfl
  · exact .inr h
section
variable {a m b : Nat} {d : Array (α × Nat)} (hS : SWO lt) (hP : Parts lt a m b d)
include hS hP
theorem Parts.cross {i j : Nat} (h1 : a ≤ i) (h2 : i < m) (h3 : m ≤ j) (h4 : j < b) : (ltT lt d[j]! d[i]! = false → TL lt d[i]! d[j]!) ∧ (TL lt d[i]! d[j]! → ltT lt d[j]! d[i]! = false) :=
  ⟨fun h => TL.early (hP.tags i j h1 h2 h3 h4) h, fun h => TL.early_iff hS h⟩
theorem one_left {i : Nat} (hm : m = a + 1) (h1 : m ≤ i) (h2 : i ≤ b) (hlo : ∀ t, m ≤ t → t < i → ltT lt d[t]! d[a]! = true) (hhi : ∀ t, i ≤ t → t < b → ltT lt d[t]! d[a]! = false) :
    TS lt a b (fwd d a (i - 1 - a)) := by
  have hz := hP.size
  have V := fwd_val d a (i - 1 - a) (by omega)
  intro p q hp hpq hq
  rw [V, V]
  by_cases h3 : p < i - 1
  · rw [if_pos (by omega)]
    by_cases h4 : q < i - 1
    · rw [if_pos (by omega)]; exact hP.right _ _ (by omega) (by omega) (by omega)
    · rw [if_neg (by omega)]
      by_cases h5 : q = i - 1
      · rw [if_pos (by omega)]; exact TL.late (hlo _ (by omega) (by omega))
      · rw [if_neg (by omega)]; exact hP.right _ _ (by omega) (by omega) (by omega)
  · rw [if_neg (by omega)]
    by_cases h5 : p = i - 1
    · rw [if_pos (by omega), if_neg (by omega), if_neg (by omega)]
      exact (hP.cross hS (by omega) (by omega) (by omega) hq).1 (hhi q (by omega) hq)
    · rw [if_neg (by omega), if_neg (by omega), if_neg (by omega)]
      exact hP.right _ _ (by omega) (by omega) (by omega)
theorem one_right {i : Nat} (hm : b = m + 1) (h1 : a ≤ i) (h2 : i ≤ m) (hlo : ∀ t, a ≤ t → t < i → ltT lt d[m]! d[t]! = false) (hhi : ∀ t, i ≤ t → t < m → ltT lt d[m]! d[t]! = true) :
    TS lt a b (bwd d m (m - i)) := by
  have hz := hP.size
  have V := bwd_val d m (by omega) (m - i) (by omega)
  intro p q hp hpq hq
  rw [V, V]
  by_cases h3 : p < i
  · rw [if_neg (by omega), if_neg (by omega)]
    by_cases h4 : q = i
    · rw [if_neg (by omega), if_pos (by omega)]
      exact (hP.cross hS hp (by omega) (Nat.le_refl _) (by omega)).1 (hlo p hp h3)
    · by_cases h5 : q < i
      · rw [if_neg (by omega), if_neg (by omega)]; exact hP.left _ _ (by omega) (by omega) (by omega)
      · rw [if_pos (by omega)]; exact hP.left _ _ (by omega) (by omega) (by omega)
  · by_cases h4 : p = i
    · rw [if_neg (by omega), if_pos (by omega), if_pos (by omega)]
      exact TL.late (hhi _ (by omega) (by omega))
    · rw [if_pos (by omega), if_pos (by omega)]; exact hP.left _ _ (by omega) (by omega) (by omega)
/-- where the search of 'start' looks -/
theorem probe_mono {n c c' : Nat} (h1 : a ≤ c') (h2 : c' ≤ c) (h3 : c < m) (h4 : m ≤ n - 1 - c) (h5 : n - 1 - c' < b) (hn : c < n) (h : ltT lt d[n - 1 - c']! d[c']! = true) : ltT lt d[n - 1 - c]! d[c]! = true := by
  cases hc : ltT lt d[n - 1 - c]! d[c]!
  · exfalso
    have e1 := (hP.cross hS (by omega : a ≤ c) h3 h4 (by omega)).1 hc
    have e2 : TL lt d[n - 1 - c']! d[c']! := TL.late h
    have e3 := at_eq (hP.left.le h1 h2 h3)
    have e4 := at_eq (hP.right.le (i := n - 1 - c) (j := n - 1 - c') h4 (by omega) h5)
    exact TL.irrefl hS _ ((TL.then_le hS (TL.le_then hS e3 e1) e4).trans hS e2)
  · rfl
/-- THE SPLIT of symMerge: behind the rotation the two halves are merged by themselves -/
theorem split_parts {start mid r0 s0 : Nat} {r : Array (α × Nat)} (hmid : mid = (a + b) / 2) (hs0 : s0 = if mid < m then mid + m - b else a) (hr0 : r0 = if mid < m then mid else m) (h1 : s0 ≤ start) (h2 : start ≤ r0)
    (hlo : s0 < start → ltT lt d[mid + m - start]! d[start - 1]! = false) (hhi : start < r0 → ltT lt d[mid + m - start - 1]! d[start]! = true)
    (hr : ∀ x, r[x]! = rotV d start m (mid + m - start) x) (hrs : r.size = d.size) :
    Parts lt a start mid r ∧ Parts lt mid (mid + m - start) b r ∧ (∀ i j, a ≤ i → i < mid → mid ≤ j → j < b → TL lt r[i]! r[j]!) := by
  have ham := hP.am
  have hmb := hP.mb
  have hz := hP.size
  have F : a ≤ start ∧ start ≤ m ∧ start ≤ mid ∧ m ≤ mid + m - start ∧ mid + m - start ≤ b ∧ mid ≤ mid + m - start ∧ mid ≤ b := by
    split at hs0 <;> split at hr0 <;> omega
  obtain ⟨f1, f2, f3, f4, f5, f6, f7⟩ := F
  -- what lies where
  have vA1 : ∀ x, x < start → r[x]! = d[x]! := fun x h => by rw [hr, rotV, if_neg (by omega), if_neg (by omega)]
  have vB1 : ∀ x, start ≤ x → x < mid → r[x]! = d[x + (m - start)]! := fun x h h' => by rw [hr, rotV, if_pos (by omega)]
  have vA2 : ∀ x, mid ≤ x → x < mid + m - start → r[x]! = d[x - (mid - start)]! := fun x h h' => by
    rw [hr, rotV, if_neg (by omega), if_pos (by omega)]; congr 1; omega
  have vB2 : ∀ x, mid + m - start ≤ x → r[x]! = d[x]! := fun x h => by rw [hr, rotV, if_neg (by omega), if_neg (by omega)]
  refine ⟨⟨?_, ?_, ?_, f1, f3, by omega⟩, ⟨?_, ?_, ?_, f6, f5, by omega⟩, ?_⟩
  · intro i j hi hij hj
    rw [vA1 _ (by omega), vA1 _ hj]; exact hP.left _ _ hi hij (by omega)
  · intro i j hi hij hj
    rw [vB1 _ hi (by omega), vB1 _ (by omega) hj]; exact hP.right _ _ (by omega) (by omega) (by omega)
  · intro i j hi hij hj hj'
    rw [vA1 _ hij, vB1 _ hj hj']; exact hP.tags _ _ hi (by omega) (by omega) (by omega)
  · intro i j hi hij hj
    rw [vA2 _ hi (by omega), vA2 _ (by omega) hj]; exact hP.left _ _ (by omega) (by omega) (by omega)
  · intro i j hi hij hj
    rw [vB2 _ hi, vB2 _ (by omega)]; exact hP.right _ _ (by omega) hij hj
  · intro i j hi hij hj hj'
    rw [vA2 _ hi hij, vB2 _ hj]; exact hP.tags _ _ (by omega) (by omega) (by omega) hj'
  · intro i j hi hi' hj hj'
    by_cases hA1 : i < start
    · rw [vA1 _ hA1]
      by_cases hA2 : j < mid + m - start
      · rw [vA2 _ hj hA2]; exact hP.left _ _ hi (by omega) (by omega)
      · rw [vB2 _ (by omega)]
        have hlt : s0 < start := by
          rcases Nat.lt_or_ge s0 start with h | h
          · exact h
          · split at hs0 <;> omega
        have e1 := (hP.cross hS (i := start - 1) (j := mid + m - start) (by omega) (by omega) (by omega) (by omega)).1 (hlo hlt)
        have e2 := at_eq (hP.left.le (i := i) (j := start - 1) hi (by omega) (by omega))
        have e3 := at_eq (hP.right.le (i := mid + m - start) (j := j) (by omega) (by omega) hj')
        exact TL.then_le hS (TL.le_then hS e2 e1) e3
    · rw [vB1 _ (by omega) hi']
      by_cases hA2 : j < mid + m - start
      · rw [vA2 _ hj hA2]
        have hlt : start < r0 := by
          rcases Nat.lt_or_ge start r0 with h | h
          · exact h
          · split at hr0 <;> omega
        have e1 : TL lt d[mid + m - start - 1]! d[start]! := TL.late (hhi hlt)
        have e2 := at_eq (hP.right.le (i := i + (m - start)) (j := mid + m - start - 1) (by omega) (by omega) (by omega))
        have e3 := at_eq (hP.left.le (i := start) (j := j - (mid - start)) (by omega) (by omega) (by omega))
        exact TL.then_le hS (TL.le_then hS e2 e1) e3
      · rw [vB2 _ (by omega)]; exact hP.right _ _ (by omega) (by omega) hj'
end
/-- .. and then the whole is ascending -/
theorem join_sorted {a mid b : Nat} {r r' r'' : Array (α × Nat)} (hb : b ≤ r.size) (hmid : mid ≤ b) (ham : a ≤ mid) (hc : ∀ i j, a ≤ i → i < mid → mid ≤ j → j < b → TL lt r[i]! r[j]!)
    (h1 : PermIn a mid r r') (s1 : TS lt a mid r') (h2 : PermIn mid b r' r'') (s2 : TS lt mid b r'') : TS lt a b r'' ∧ PermIn a b r r'' := by
  refine ⟨fun i j hi hij hj => ?_, permIn_trans _ _ _ _ _ (permIn_mono _ _ a mid a b (Nat.le_refl _) hmid hb h1) (permIn_mono _ _ mid b a b ham (Nat.le_refl _) (by rw [h1.1]; exact hb) h2)⟩
  by_cases h3 : j < mid
  · rw [h2.2.1 i (.inl (by omega)), h2.2.1 j (.inl h3)]; exact s1 i j hi hij h3
  · by_cases h4 : mid ≤ i
    · exact s2 i j h4 hij hj
    · rw [h2.2.1 i (.inl (by omega))]
      refine permIn_all r r' a mid (fun x => TL lt x r''[j]!) (by omega) h1 (fun k hk1 hk2 => ?_) i hi (by omega)
      refine permIn_all r' r'' mid b (fun y => TL lt r[k]! y) (by rw [h1.1]; exact hb) h2 (fun q hq1 hq2 => ?_) j (by omega) hj
      rw [h1.2.1 q (.inr hq1)]
      exact hc k q hk1 hk2 hq1 hq2
/-! blocks -/
/-- each block of bs elements is ascending, from lo to hi -/
def BSt (lt : α → α → Bool) (bs lo hi : Nat) (d : Array (α × Nat)) : Prop := ∀ i j, lo ≤ i → i < j → j < hi → i / bs = j / bs → TL lt d[i]! d[j]!
/-- each element has its tag in its block -/
def BTg (bs n : Nat) (d : Array (α × Nat)) : Prop := ∀ i, i < n → d[i]!.2 / bs = i / bs
theorem div_block {bs k i : Nat} (h1 : k * bs ≤ i) (h2 : i < k * bs + bs) : i / bs = k := by
  have hb : 0 < bs := by omega
  rw [Nat.div_eq_iff hb]
  rw [Nat.mul_comm] at h1 h2
  rw [Nat.mul_comm]
  omega
theorem block_of_div {bs k i : Nat} (hb : 0 < bs) (h : i / bs = k) : k * bs ≤ i ∧ i < k * bs + bs := by
  subst h
  have h1 := Nat.div_mul_le_self i bs
  have h2 := Nat.lt_div_mul_add (a := i) hb
  omega
theorem lt_block {bs c i : Nat} (h : i < c * bs) : i / bs < c := by
  have hb : 0 < bs := by rcases Nat.eq_zero_or_pos bs with h0 | h0; · rw [h0, Nat.mul_zero] at h; omega
                         · exact h0
  exact (Nat.div_lt_iff_lt_mul hb).2 h
/-- one more block is ascending -/
theorem BSt.step {bs c a b : Nat} {d r : Array (α × Nat)} (ha : a = c * bs) (_hab : a ≤ b) (hb : b ≤ a + bs) (h : BSt lt bs 0 a d) (hp : PermIn a b d r) (ht : TS lt a b r) : BSt lt bs 0 b r := by
  intro i j h1 h2 h3 h4
  by_cases h5 : j < a
  · rw [hp.2.1 i (.inl (by omega)), hp.2.1 j (.inl h5)]; exact h i j h1 h2 h5 h4
  · by_cases h6 : a ≤ i
    · exact ht i j h6 h2 h3
    · have e1 : i / bs < c := lt_block (by omega)
      have e2 : j / bs = c := div_block (by omega) (by omega)
      omega
theorem BTg.step {bs c a b n : Nat} {d r : Array (α × Nat)} (ha : a = c * bs) (hb : b ≤ a + bs) (hbn : b ≤ n) (hn : n ≤ d.size) (h : BTg bs n d) (hp : PermIn a b d r) : BTg bs n r := by
  intro i hi
  by_cases h1 : a ≤ i ∧ i < b
  · rw [div_block (bs := bs) (k := c) (i := i) (by omega) (by omega)]
    exact permIn_all d r a b (fun x => x.2 / bs = c) (by omega) hp (fun k hk1 hk2 => by rw [h k (by omega)]; exact div_block (by omega) (by omega)) i h1.1 h1.2
  · rw [hp.2.1 i (by omega)]; exact h i hi
theorem parts_of {bs c a e n : Nat} {d : Array (α × Nat)} (ha : a = c * (2 * bs)) (h1 : a + bs < e) (h2 : e ≤ a + 2 * bs) (hen : e ≤ n) (hn : n ≤ d.size) (h : ∀ i j, a ≤ i → i < j → j < n → i / bs = j / bs → TL lt d[i]! d[j]!) (ht : ∀ i, a ≤ i → i < n → d[i]!.2 / bs = i / bs) : Parts lt a (a + bs) e d := by
  have ha' : a = (2 * c) * bs := by rw [ha, Nat.mul_comm 2 bs, ← Nat.mul_assoc, Nat.mul_comm (c * bs) 2, Nat.mul_assoc]
  have hm' : (2 * c + 1) * bs = a + bs := by rw [Nat.add_mul, ← ha', Nat.one_mul]
  have L : ∀ i, a ≤ i → i < a + bs → i / bs = 2 * c := fun i h3 h4 => div_block (by omega) (by omega)
  have R : ∀ i, a + bs ≤ i → i < e → i / bs = 2 * c + 1 := fun i h3 h4 => div_block (by omega) (by omega)
  refine ⟨fun i j h3 h4 h5 => h i j h3 h4 (by omega) (by rw [L i h3 (by omega), L j (by omega) h5]), fun i j h3 h4 h5 => h i j (by omega) h4 (by omega) (by rw [R i h3 (by omega), R j (by omega) h5]), fun i j h3 h4 h5 h6 => ?_, by omega, by omega, by omega⟩
  have e1 := ht i h3 (by omega)
  have e2 := ht j (by omega) (by omega)
  rw [L i h3 h4] at e1
  rw [R j h5 h6] at e2
  rcases Nat.lt_or_ge d[i]!.2 d[j]!.2 with h7 | h7
  · exact h7
  · have := Nat.div_le_div_right (c := bs) h7
    omega
theorem BTg.half {bs n : Nat} {d : Array (α × Nat)} (h : BTg bs n d) : BTg (2 * bs) n d := fun i hi => by
  rw [Nat.mul_comm, ← Nat.div_div_eq_div_mul, ← Nat.div_div_eq_div_mul, h i hi]
theorem BTg.one {n : Nat} {d : Array (α × Nat)} (h : ∀ i, i < n → d[i]!.2 = i) (bs : Nat) : BTg bs n d := fun i hi => by rw [h i hi]
/-- the last blocks -/
theorem BSt.rest {bs c a n : Nat} {d : Array (α × Nat)} (ha : a = c * (2 * bs)) (h1 : n ≤ a + bs) (h : BSt lt (2 * bs) 0 a d) (h2 : ∀ i j, a ≤ i → i < j → j < n → i / bs = j / bs → TL lt d[i]! d[j]!) : BSt lt (2 * bs) 0 n d := by
  have ha' : a = (2 * c) * bs := by rw [ha, Nat.mul_comm 2 bs, ← Nat.mul_assoc, Nat.mul_comm (c * bs) 2, Nat.mul_assoc]
  intro i j h3 h4 h5 h6
  by_cases h7 : j < a
  · exact h i j h3 h4 h7 h6
  · by_cases h8 : a ≤ i
    · exact h2 i j h8 h4 h5 (by rw [div_block (bs := bs) (k := 2 * c) (i := i) (by omega) (by omega), div_block (bs := bs) (k := 2 * c) (i := j) (by omega) (by omega)])
    · have e1 : i / (2 * bs) < c := lt_block (by omega)
      have e2 : j / (2 * bs) = c := div_block (by omega) (by omega)
      omega
theorem BSt.all {bs n : Nat} {d : Array (α × Nat)} (h : BSt lt bs 0 n d) (hb : n ≤ bs) : TS lt 0 n d := fun i j h1 h2 h3 =>
  h i j h1 h2 h3 (by rw [Nat.div_eq_of_lt (by omega), Nat.div_eq_of_lt (by omega)])
end
end Go.Proofs.Ytcpnfcnobnjhdaa

/- The library's stable sort of shop.at: the walks, over whatever program bears its texts. The exchange and the insertion after the kit's slices.insertionSortCmpFunc at structs. -/
namespace Go.Proofs.Ytcpnfcnobnjhdaa
open Go Go.Sort Go.RowKit Go.Lib Go.Shelf Go.Proofs
namespace StabAt
/-- what the walks ask of the program -/
structure Lay (P : Program) (k : Nat) : Prop where
  mixed : P.follows .mixedOrders = true
  fIns : P.funcs[93]? = some Try.f93
  fSwr : P.funcs[96]? = some Try.f96
  fRot : P.funcs[95]? = some Try.f95
  fSym : P.funcs[94]? = some Try.f94
  fStb : P.funcs[89]? = some Try.f89
  fTop : P.funcs[82]? = some Try.f82
  eIns : ∀ args w, (callFunc 93 args).run P w = .ok (.enter 93 args) w
  eSwr : ∀ args w, (callFunc 96 args).run P w = .ok (.enter 96 args) w
  eRot : ∀ args w, (callFunc 95 args).run P w = .ok (.enter 95 args) w
  eSym : ∀ args w, (callFunc 94 args).run P w = .ok (.enter 94 args) w
  eStb : ∀ args w, (callFunc 89 args).run P w = .ok (.enter 89 args) w
  tS : P.underlying 87 = some (.slice 91)
  aS : ∀ w, (isAgg 87).run P w = .ok false w
  zS : ∀ w, (Go.sizeOf 87).run P w = .ok 1 w
  vS : ∀ w, (zeroValue 87).run P w = .ok (.slice none 0 0) w
  t3 : P.underlying 3 = some (.int .i64)
  a3 : ∀ w, (isAgg 3).run P w = .ok false w
  z3 : ∀ w, (Go.sizeOf 3).run P w = .ok 1 w
  v3 : ∀ w, (zeroValue 3).run P w = .ok (.int .i64 0) w
  t4 : P.underlying 4 = some .bool
  a4 : ∀ w, (isAgg 4).run P w = .ok false w
  z4 : ∀ w, (Go.sizeOf 4).run P w = .ok 1 w
  v4 : ∀ w, (zeroValue 4).run P w = .ok (.bool false) w
  tU : P.underlying 109 = some (.int .u64)
  aU : ∀ w, (isAgg 109).run P w = .ok false w
  zU : ∀ w, (Go.sizeOf 109).run P w = .ok 1 w
  vU : ∀ w, (zeroValue 109).run P w = .ok (.int .u64 0) w
  aE : ∀ w, (isAgg 91).run P w = .ok true w
  zE : ∀ w, (Go.sizeOf 91).run P w = .ok k w
variable {P : Program} {β : Type} [Inhabited β]
/-- what 'cmp' is asked: in every world that the sort passes through it answers, draws and lays blocks, and turns nothing -/
def Cmp (P : Program) (g : Nat) (cb : Array Value) (enc : β → List Value) (k : Nat) (cf : β → β → Int) (blk off size : Nat) (w : World) : Prop := CmpLays P g cb enc k cf blk off size w
def SW (enc : β → List Value) (k : Nat) (w : World) (blk off m : Nat) (d : Array β) (os : Array Obj) : World := sortWorldK enc k w blk off m d os
section
variable {enc : β → List Value} {k : Nat} {w : World} {blk off : Nat}
/-- a run of k loads -/
theorem loads (P : Program) (hk : ∀ x, (enc x).length = k) {W : World} {d : Array β} (h : HoldsK enc k W blk off d) {i : Nat} (hi : i < d.size) : Sem.run P (loadCellsFrom ⟨blk, off + i * k, none⟩ 0 k #[]) W = .ok (enc d[i]!).toArray W :=
  run_loadCellsFrom_list P _ _ _ k (hk _) (HoldsK.cells h hk hi)
theorem row_le {β : Type} {d : Array β} (i : Nat) (hi : i < d.size) (k : Nat) : i * k + k ≤ d.size * k := by
  have := Nat.mul_le_mul_right k (show i + 1 ≤ d.size from hi); rwa [Nat.add_mul, Nat.one_mul] at this
/-- the first run of stores of an exchange, and the second one behind it -/
theorem stores1 (P : Program) (hk : ∀ x, (enc x).length = k) (h1 : ∀ x, ∀ v ∈ enc x, v.oneCell' = true) {W : World} {d : Array β} (h : HoldsK enc k W blk off d) {i : Nat} (hi : i < d.size) (y : β) :
    Sem.run P (storeCells ⟨blk, off + i * k, none⟩ (enc y) 0) W = .ok () (W.setCells blk (off + i * k) (enc y)) :=
  stores_of_holds P h (i * k) _ (by rw [hk, size_flatK]; exact row_le i hi k) (h1 _)
theorem stores2 (P : Program) (hk : ∀ x, (enc x).length = k) (h1 : ∀ x, ∀ v ∈ enc x, v.oneCell' = true) {W : World} {d : Array β} (h : HoldsK enc k W blk off d) {i j : Nat} (hi : i < d.size) (hj : j < d.size) (y z : β) :
    Sem.run P (storeCells ⟨blk, off + j * k, none⟩ (enc z) 0) (W.setCells blk (off + i * k) (enc y)) = .ok () ((W.setCells blk (off + i * k) (enc y)).setCells blk (off + j * k) (enc z)) :=
  stores_of_holds P (holds_setCells_c h (i * k) _ (by rw [hk, size_flatK]; exact row_le i hi k)) (j * k) _ (by rw [hk, size_setMany, size_flatK]; exact row_le j hj k) (h1 _)
end
/-- a world of the sort's over a world of the sort's -/
theorem SW_again (enc : β → List Value) (k : Nat) (w : World) (blk off q m : Nat) (dk d : Array β) (os os' : Array Obj) (hblk : blk < w.heap.size) (hs : d.size = dk.size) : SW enc k (SW enc k w blk off q dk os) blk off m d os' = SW enc k w blk off (q + m) d (os ++ os') := by
  unfold SW sortWorldK
  exact grow_step_growK enc k w os os' q m blk off dk d hblk hs
section
variable {k : Nat} (L : Lay P k) (enc : β → List Value) (hk : ∀ x, (enc x).length = k) (h1 : ∀ x, ∀ v ∈ enc x, v.oneCell' = true)
include L hk h1
set_option maxHeartbeats 4000000 in
set_option maxRecDepth 1000000 in
theorem swapRange_any (cmp : Value) (blk off cap a b n : Nat) (d : Array β) (w : World) (hH : HoldsK enc k w blk off d) (hblk : blk < w.heap.size) (han : a + n ≤ d.size) (hbn : b + n ≤ d.size) (hsz : d.size < 4611686018427387904) :
    Calls P 96 #[.slice (some ⟨blk, off, none⟩) d.size cap, .int .i64 a, .int .i64 b, .int .i64 n, cmp] w fun e w' =>
      e = .returned (.tuple #[]) ∧ ∃ m os, w' = SW enc k w blk off m (swr d a b n) os := by
  have mixed := L.mixed; have tS := L.tS; have aS := L.aS; have zS := L.zS; have vS := L.vS; have t3 := L.t3; have a3 := L.a3; have z3 := L.z3; have v3 := L.v3; have t4 := L.t4; have a4 := L.a4; have z4 := L.z4; have v4 := L.v4; have aE := L.aE; have zE := L.zE; have tU := L.tU; have aU := L.aU; have zU := L.zU; have vU := L.vU
  have uS := run_underlying L.tS
  have eIns := L.eIns; have eSwr := L.eSwr; have eRot := L.eRot; have eSym := L.eSym; have eStb := L.eStb
  have HST : Hid (w = SW enc k w blk off 0 d #[]) := by show w = _; unfold SW sortWorldK; rw [grow_empty]; exact (putRowK_self enc k w blk off d hH).symm
  have HH : Hid (HoldsK enc k w blk off d) := hH
  have HK : Hid (∀ x, (enc x).length = k) := hk
  have H1 : Hid (∀ x, ∀ v ∈ enc x, v.oneCell' = true) := h1
  clear hH hk h1
  go_enter L.fSwr, Try.ntmps96
  go_wp2
  go_loopg [10] n (fun g vi wr => ∃ (i m : Nat) (os : Array Obj), vi = .int .i64 i ∧ i ≤ n ∧ n - i ≤ g ∧ wr = SW enc k w blk off m (swr d a b i) os)
  case atStart => exact ⟨0, 0, #[], rfl, by omega, by omega, HST.out⟩
  case round =>
    obtain ⟨i, m, os, rfl, hi, hg, hwr⟩ := hrel
    by_cases hlt : i < n
    · have hS : (swr d a b i).size = d.size := swr_size d a b i
      have HNX : Hid (swp (swr d a b i) (a + i) (b + i) = swr d a b (i + 1)) := rfl
      generalize swr d a b i = dk at *
      have HQ : Hid (wr = SW enc k w blk off m dk os) := hwr
      clear hwr
      generalize wr = wq at *
      have x1 : IntKind.i64.wrap ((a : Int) + (i : Int)) = (a : Int) + (i : Int) := IntWalk.i64_in _ (by omega)
      have x2 : IntKind.i64.wrap ((b : Int) + (i : Int)) = (b : Int) + (i : Int) := IntWalk.i64_in _ (by omega)
      have y1 : ((a : Int) + (i : Int)).toNat = a + i := by omega
      have y2 : ((b : Int) + (i : Int)).toNat = b + i := by omega
      have z1 : (0 : Int) ≤ (a : Int) + (i : Int) := by omega
      have z2 : (0 : Int) ≤ (b : Int) + (i : Int) := by omega
      have z5 : (a : Int) + (i : Int) < (d.size : Int) := by omega
      have z6 : (b : Int) + (i : Int) < (d.size : Int) := by omega
      have hHd : HoldsK enc k wq.drew blk off dk := by
        have : HoldsK enc k wq blk off dk := by rw [HQ.out]; exact holdsK_sortWorldK_c enc k w blk off d dk _ _ HH.out hblk hS
        exact this
      have hI : (a + i) < dk.size := (by omega)
      have hJ : (b + i) < dk.size := (by omega)
      have lI := loads P HK.out hHd hI
      have lJ := loads P HK.out hHd hJ
      have s1 := stores1 P HK.out H1.out hHd hI dk[(b + i)]!
      have s2 := stores2 P HK.out H1.out hHd hI hJ dk[(b + i)]! dk[(a + i)]!
      have hl1 : (enc dk[(a + i)]!).length = k := HK.out _
      have hl2 : (enc dk[(b + i)]!).length = k := HK.out _
      obtain ⟨c1, hc1⟩ : ∃ c, c = enc dk[(a + i)]! := ⟨_, rfl⟩
      obtain ⟨c2, hc2⟩ : ∃ c, c = enc dk[(b + i)]! := ⟨_, rfl⟩
      rw [← hc1] at lI hl1
      rw [← hc2] at lJ s1 hl2
      rw [← hc1, ← hc2] at s2
      have CC : Hid (c1 = enc dk[(a + i)]! ∧ c2 = enc dk[(b + i)]!) := ⟨hc1, hc2⟩
      clear hc1 hc2 hHd hI hJ
      go_wp2_with fail
      go_big_region_o
      all_goals go_wp2
      go_roundg (n - (i + 1))
      case measure => omega
      case rel =>
        refine ⟨i + 1, m + 1, os, by go_num, by omega, Nat.le_refl _, ?_⟩
        rw [← HNX.out, CC.out.1, CC.out.2, HQ.out]
        exact sortWorldK_swp_c enc k w blk off HK.out m dk os hblk (a + i) (b + i) (by omega) (by omega)
    · have hltz : ¬ (i : Int) < (n : Int) := by omega
      obtain rfl : i = n := by omega
      go_wp2
      go_end0
      exact ⟨rfl, m, os, rfl⟩
set_option maxHeartbeats 4000000 in
set_option maxRecDepth 1000000 in
theorem rotate_any (cmp : Value) (blk off cap a m b : Nat) (d : Array β) (w : World) (hH : HoldsK enc k w blk off d) (hblk : blk < w.heap.size) (ham : a < m) (hmb : m < b) (hb : b ≤ d.size) (hsz : d.size < 4611686018427387904) :
    Calls P 95 #[.slice (some ⟨blk, off, none⟩) d.size cap, .int .i64 a, .int .i64 m, .int .i64 b, cmp] w fun e w' =>
      e = .returned (.tuple #[]) ∧ ∃ q os r, w' = SW enc k w blk off q r os ∧ PermIn a b d r ∧ ∀ x, r[x]! = rotV d a m b x := by
  have mixed := L.mixed; have tS := L.tS; have aS := L.aS; have zS := L.zS; have vS := L.vS; have t3 := L.t3; have a3 := L.a3; have z3 := L.z3; have v3 := L.v3; have t4 := L.t4; have a4 := L.a4; have z4 := L.z4; have v4 := L.v4; have aE := L.aE; have zE := L.zE; have tU := L.tU; have aU := L.aU; have zU := L.zU; have vU := L.vU
  have uS := run_underlying L.tS
  have eIns := L.eIns; have eSwr := L.eSwr; have eRot := L.eRot; have eSym := L.eSym; have eStb := L.eStb
  have HST : Hid (w = SW enc k w blk off 0 d #[]) := by show w = _; unfold SW sortWorldK; rw [grow_empty]; exact (putRowK_self enc k w blk off d hH).symm
  have HH : Hid (HoldsK enc k w blk off d) := hH
  have HK : Hid (∀ x, (enc x).length = k) := hk
  have H1 : Hid (∀ x, ∀ v ∈ enc x, v.oneCell' = true) := h1
  have hR0 : ∀ x, rotV d (m - (m - a)) m (m + (b - m)) x = rotV d a m b x := fun x => by rw [show m - (m - a) = a by omega, show m + (b - m) = b by omega]
  have HR0 := hide hR0
  clear hH hk h1 hR0
  go_enter L.fRot, Try.ntmps95
  go_wp2
  go_loopg [10, 11] b (fun g vi vj wr => ∃ (i j q : Nat) (os : Array Obj) (dk : Array β), vi = .int .i64 i ∧ vj = .int .i64 j ∧ 0 < i ∧ 0 < j ∧ i ≤ m - a ∧ j ≤ b - m ∧ i + j ≤ g ∧ wr = SW enc k w blk off q dk os ∧ PermIn a b d dk ∧ Hid (∀ x, rotV dk (m - i) m (m + j) x = rotV d a m b x))
  case atStart => exact ⟨m - a, b - m, 0, #[], d, by go_num, by go_num, by omega, by omega, by omega, by omega, by omega, HST.out, permIn_refl d a b, HR0.out⟩
  case round =>
    obtain ⟨i, j, q, os, dk, rfl, rfl, hi0, hj0, hi, hj, hg, hwr, hp, hR⟩ := hrel
    have hS : dk.size = d.size := hp.1
    have HP : Hid (PermIn a b d dk) := hp
    clear hp
    have HQ : Hid (wr = SW enc k w blk off q dk os) := hwr
    clear hwr
    have hHd : HoldsK enc k wr blk off dk := by rw [HQ.out]; exact holdsK_sortWorldK_c enc k w blk off d dk _ _ HH.out hblk hS
    have hbw : blk < wr.heap.size := by rw [HQ.out]; exact Nat.lt_of_lt_of_le hblk (size_sortWorldK_c enc k w blk off q dk os)
    have HHd := hide hHd
    clear hHd
    have again : ∀ (m' : Nat) (d' : Array β) (os' : Array Obj), d'.size = dk.size → SW enc k wr blk off m' d' os' = SW enc k w blk off (q + m') d' (os ++ os') := fun m' d' os' hs => by rw [HQ.out]; exact SW_again enc k w blk off q m' dk d' os os' hblk hs
    have AG := hide again
    clear again
    rcases Nat.lt_trichotomy i j with hij | rfl | hij
    · have C := swapRange_any L enc HK.out H1.out cmp blk off cap (m - i) (m + j - i) i dk wr HHd.out hbw (by omega) (by omega) (by omega)
      rw [show ((m - i : Nat) : Int) = (m : Int) - (i : Int) by omega, show ((m + j - i : Nat) : Int) = (m : Int) + (j : Int) - (i : Int) by omega, hS] at C
      have hne : ((i : Int) == (j : Int)) = false := by simp; omega
      go_wp2_with fail
      refine C.mono ?_
      rintro e w2 ⟨rfl, q2, os2, hw2⟩
      rw [AG.out _ _ _ (swr_size ..)] at hw2
      have HW2 := hide hw2
      clear hw2 C
      go_wp2
      go_roundg (i + (j - i))
      case measure => omega
      case rel => exact ⟨i, j - i, _, _, _, rfl, by go_num, hi0, by omega, hi, by omega, Nat.le_refl _, HW2.out, permIn_trans _ _ _ _ _ HP.out (swr_perm dk (m - i) (m + j - i) a b (by omega) (by omega) i (by omega) (by omega) (by omega)), fun x => by rw [rot_right dk hij (by omega) (by omega) x]; exact hR.out x⟩
    · have C := swapRange_any L enc HK.out H1.out cmp blk off cap (m - i) m i dk wr HHd.out hbw (by omega) (by omega) (by omega)
      rw [show ((m - i : Nat) : Int) = (m : Int) - (i : Int) by omega, hS] at C
      go_wp2_with fail
      refine C.mono ?_
      rintro e w2 ⟨rfl, q2, os2, hw2⟩
      rw [AG.out _ _ _ (swr_size ..)] at hw2
      have HW2 := hide hw2
      clear hw2 C
      go_wp2
      go_end0
      exact ⟨rfl, _, _, _, HW2.out, permIn_trans _ _ _ _ _ HP.out (swr_perm dk (m - i) m a b (by omega) (by omega) i (by omega) (by omega) (by omega)), fun x => by rw [rot_same dk (by omega) (by omega) x]; exact hR.out x⟩
    · have C := swapRange_any L enc HK.out H1.out cmp blk off cap (m - i) m j dk wr HHd.out hbw (by omega) (by omega) (by omega)
      rw [show ((m - i : Nat) : Int) = (m : Int) - (i : Int) by omega, hS] at C
      have hne : ((i : Int) == (j : Int)) = false := by simp; omega
      go_wp2_with fail
      refine C.mono ?_
      rintro e w2 ⟨rfl, q2, os2, hw2⟩
      rw [AG.out _ _ _ (swr_size ..)] at hw2
      have HW2 := hide hw2
      clear hw2 C
      go_wp2
      go_roundg (i - j + j)
      case measure => omega
      case rel => exact ⟨i - j, j, _, _, _, by go_num, rfl, by omega, hj0, by omega, hj, Nat.le_refl _, HW2.out, permIn_trans _ _ _ _ _ HP.out (swr_perm dk (m - i) m a b (by omega) (by omega) j (by omega) (by omega) (by omega)), fun x => by rw [rot_left dk hij (by omega) (by omega) x]; exact hR.out x⟩
set_option maxHeartbeats 4000000 in
set_option maxRecDepth 1000000 in
theorem symLeft_any (cf : β → β → Int) (g : Nat) (cb : Array Value) (blk off cap a m b : Nat) (d : Array β) (w : World)
    (eg : ∀ args w, (callFunc g args).run P w = .ok (.enter g args) w) (hcmp : Cmp P g cb enc k cf blk off d.size w) (hH : HoldsK enc k w blk off d) (hblk : blk < w.heap.size) (ham : m = a + 1) (hmb : m ≤ b) (hb : b ≤ d.size) (hsz : d.size < 4611686018427387904)
    (hmono : ∀ s t, m ≤ s → s ≤ t → t < b → cf d[t]! d[a]! < 0 → cf d[s]! d[a]! < 0) :
    Calls P 94 #[.slice (some ⟨blk, off, none⟩) d.size cap, .int .i64 a, .int .i64 m, .int .i64 b, .func (.func g) #[] cb] w fun e w' =>
      e = .returned (.tuple #[]) ∧ ∃ q os i, w' = SW enc k w blk off q (fwd d a (i - 1 - a)) os ∧ m ≤ i ∧ i ≤ b ∧ (∀ t, m ≤ t → t < i → cf d[t]! d[a]! < 0) ∧ (∀ t, i ≤ t → t < b → 0 ≤ cf d[t]! d[a]!) := by
  have mixed := L.mixed; have tS := L.tS; have aS := L.aS; have zS := L.zS; have vS := L.vS; have t3 := L.t3; have a3 := L.a3; have z3 := L.z3; have v3 := L.v3; have t4 := L.t4; have a4 := L.a4; have z4 := L.z4; have v4 := L.v4; have aE := L.aE; have zE := L.zE; have tU := L.tU; have aU := L.aU; have zU := L.zU; have vU := L.vU
  have uS := run_underlying L.tS
  have eIns := L.eIns; have eSwr := L.eSwr; have eRot := L.eRot; have eSym := L.eSym; have eStb := L.eStb
  have HC : Aside _ := hcmp
  have HM := hide hmono
  have HST : Hid (w = SW enc k w blk off 0 d #[]) := by show w = _; unfold SW sortWorldK; rw [grow_empty]; exact (putRowK_self enc k w blk off d hH).symm
  have HH : Hid (HoldsK enc k w blk off d) := hH
  have HK : Hid (∀ x, (enc x).length = k) := hk
  have H1 : Hid (∀ x, ∀ v ∈ enc x, v.oneCell' = true) := h1
  clear hH hk h1 hcmp hmono
  have hm1 : (((m : Int) - (a : Int)) == 1) = true := by simp; omega
  have HAM := hide ham
  have ham' : a < m := by omega
  clear ham
  go_enter L.fSym, Try.ntmps94
  go_wp2
  go_loopg [10, 11] (b - a) (fun g1 vi vj wr => ∃ (i j q : Nat) (os : Array Obj), vi = .int .i64 i ∧ vj = .int .i64 j ∧ m ≤ i ∧ i ≤ j ∧ j ≤ b ∧ j - i ≤ g1 ∧ wr = SW enc k w blk off q d os ∧ Hid (∀ t, m ≤ t → t < i → cf d[t]! d[a]! < 0) ∧ Hid (∀ t, j ≤ t → t < b → 0 ≤ cf d[t]! d[a]!))
  case atStart => exact ⟨m, b, 0, #[], rfl, rfl, by omega, by omega, by omega, by omega, HST.out, hide fun t h h' => by omega, hide fun t h h' => by omega⟩
  case round =>
    obtain ⟨i, j, q, os, rfl, rfl, hi, hij, hj, hg1, hwr, HLO, HHI⟩ := hrel
    obtain ⟨dk, hdk⟩ : ∃ dk, dk = d := ⟨d, rfl⟩
    have hS : dk.size = d.size := by rw [hdk]
    have HQ : Hid (wr = SW enc k w blk off q dk os) := by show _ = _; rw [hdk]; exact hwr
    have HD := hide hdk
    clear hwr hdk
    generalize wr = wq at *
    by_cases hlt : i < j
    · obtain ⟨h, hh⟩ : ∃ h, h = (i + j) / 2 := ⟨_, rfl⟩
      have h2 : i ≤ h ∧ h < j := by omega
      have x1 : ((i : Int) + (j : Int)) / 2 = (h : Int) := by omega
      have HH2 := hide hh
      clear hh
      have z5 : (h : Int) < (d.size : Int) := by omega
      have z6 : (a : Int) < (d.size : Int) := by omega
      have hcls : ∀ n' os', grow (wq.drewN n') os' = SW enc k w blk off (q + n') dk (os ++ os') := fun n' os' => by rw [HQ.out]; exact sortWorldK_grown_c enc k w blk off q n' dk os os'
      have hHc : ∀ n' os', HoldsK enc k (grow (wq.drewN n') os') blk off dk := fun n' os' => by rw [hcls]; exact holdsK_sortWorldK_c enc k w blk off d dk _ _ HH.out hblk hS
      have l1 : ∀ n' os', Sem.run P (loadCellsFrom ⟨blk, off + (h) * k, none⟩ 0 k #[]) (grow (wq.drewN n') os') = .ok (enc dk[h]!).toArray (grow (wq.drewN n') os') := fun n' os' => loads P HK.out (hHc n' os') (by omega)
      have l2 : ∀ n' os', Sem.run P (loadCellsFrom ⟨blk, off + (a) * k, none⟩ 0 k #[]) (grow (wq.drewN n') os') = .ok (enc dk[a]!).toArray (grow (wq.drewN n') os') := fun n' os' => loads P HK.out (hHc n' os') (by omega)
      have hcg : ∀ n' os', Calls P g (#[.agg (enc dk[h]!).toArray, .agg (enc dk[a]!).toArray] ++ cb) (grow (wq.drewN n') os') fun e w' => e = .returned (.int .i64 (cf dk[h]! dk[a]!)) ∧ ∃ q os'', w' = grow ((grow (wq.drewN n') os').drewN q) os'' := fun n' os' => by
        rw [hcls]; exact HC.out _ _ dk hS dk[h]! dk[a]!
      have CLS : Hid _ := hcls
      clear hcls hHc
      by_cases hlv : cf dk[h]! dk[a]! < 0
      · go_wp2_with fail
        go_quiet_grown (first | (go_at_fn g; refine Calls.grown_of (hcg _ _)))
        go_wp2
        have hlv' : cf d[h]! d[a]! < 0 := by rw [← HD.out]; exact hlv
        go_roundg (j - (h + 1))
        case measure => omega
        case rel => exact ⟨h + 1, j, q + nq, os ++ osq, by go_num, rfl, by omega, by omega, hj, Nat.le_refl _, by rw [CLS.out, HD.out], hide fun t h3 h4 => HM.out t h h3 (by omega) (by omega) hlv', HHI⟩
      · go_wp2_with fail
        go_quiet_grown (first | (go_at_fn g; refine Calls.grown_of (hcg _ _)))
        go_wp2
        have hlv' : ¬ cf d[h]! d[a]! < 0 := by have e := hlv; rw [HD.out] at e; omega
        go_roundg (h - i)
        case measure => omega
        case rel => exact ⟨i, h, q + nq, os ++ osq, rfl, rfl, hi, by omega, by omega, Nat.le_refl _, by rw [CLS.out, HD.out], HLO, hide fun t h3 h4 => Int.not_lt.1 fun hc => hlv' (HM.out h t (by omega) h3 h4 hc)⟩
    · obtain rfl : i = j := by omega
      go_wp2
      go_loopg [13] (i - 1 - a) (fun g2 vk wr2 => ∃ (n q : Nat) (os : Array Obj), vk = .int .i64 ((a + n : Nat) : Int) ∧ n ≤ i - 1 - a ∧ i - 1 - a - n ≤ g2 ∧ wr2 = SW enc k w blk off q (fwd d a n) os)
      case atStart => exact ⟨0, q, os, by go_num, by omega, by omega, by rw [HQ.out, HD.out]; rfl⟩
      case round =>
        clear HQ HD hS
        obtain ⟨n, q2, os2, rfl, hn, hg2, hwr⟩ := hrel
        by_cases hlt2 : n < i - 1 - a
        · have hS : (fwd d a n).size = d.size := fwd_size d a n
          have HNX : Hid (swp (fwd d a n) (a + n) (a + n + 1) = fwd d a (n + 1)) := rfl
          generalize fwd d a n = dk at *
          have HQ : Hid (wr = SW enc k w blk off q2 dk os2) := hwr
          clear hwr
          generalize wr = wq at *
          generalize hp : a + n = p at *
          have x1 : IntKind.i64.wrap ((p : Int) + 1) = (p : Int) + 1 := IntWalk.i64_in _ (by omega)
          have y1 : ((p : Int) + 1).toNat = p + 1 := by omega
          have z1 : (0 : Int) ≤ (p : Int) + 1 := by omega
          have z5 : (p : Int) + 1 < (d.size : Int) := by omega
          have z6 : (p : Int) < (d.size : Int) := by omega
          have hHd : HoldsK enc k wq.drew blk off dk := by
            have : HoldsK enc k wq blk off dk := by rw [HQ.out]; exact holdsK_sortWorldK_c enc k w blk off d dk _ _ HH.out hblk hS
            exact this
          have hI : (p) < dk.size := (by omega)
          have hJ : (p + 1) < dk.size := (by omega)
          have lI := loads P HK.out hHd hI
          have lJ := loads P HK.out hHd hJ
          have s1 := stores1 P HK.out H1.out hHd hI dk[(p + 1)]!
          have s2 := stores2 P HK.out H1.out hHd hI hJ dk[(p + 1)]! dk[(p)]!
          have hl1 : (enc dk[(p)]!).length = k := HK.out _
          have hl2 : (enc dk[(p + 1)]!).length = k := HK.out _
          obtain ⟨c1, hc1⟩ : ∃ c, c = enc dk[(p)]! := ⟨_, rfl⟩
          obtain ⟨c2, hc2⟩ : ∃ c, c = enc dk[(p + 1)]! := ⟨_, rfl⟩
          rw [← hc1] at lI hl1
          rw [← hc2] at lJ s1 hl2
          rw [← hc1, ← hc2] at s2
          have CC : Hid (c1 = enc dk[(p)]! ∧ c2 = enc dk[(p + 1)]!) := ⟨hc1, hc2⟩
          clear hc1 hc2 hHd hI hJ
          go_wp2_with fail
          go_big_region_o
          all_goals go_wp2
          go_roundg (i - 1 - a - (n + 1))
          case measure => omega
          case rel =>
            refine ⟨n + 1, q2 + 1, os2, by go_num, by omega, Nat.le_refl _, ?_⟩
            rw [← HNX.out, CC.out.1, CC.out.2, HQ.out]
            exact sortWorldK_swp_c enc k w blk off HK.out q2 dk os2 hblk p (p + 1) (by omega) (by omega)
        · obtain rfl : n = i - 1 - a := by omega
          rw [show ((a + (i - 1 - a) : Nat) : Int) = (i : Int) - 1 by omega]
          go_wp2
          exact bodyPost_ret (v := .tuple #[]) (results_none rfl _ _ _) rfl ⟨rfl, q2, os2, i, rfl, hi, hj, HLO.out, HHI.out⟩
set_option maxHeartbeats 4000000 in
set_option maxRecDepth 1000000 in
theorem symRight_any (cf : β → β → Int) (g : Nat) (cb : Array Value) (blk off cap a m b : Nat) (d : Array β) (w : World)
    (eg : ∀ args w, (callFunc g args).run P w = .ok (.enter g args) w) (hcmp : Cmp P g cb enc k cf blk off d.size w) (hH : HoldsK enc k w blk off d) (hblk : blk < w.heap.size) (ham : a + 1 < m) (hmb : b = m + 1) (hb : b ≤ d.size) (hsz : d.size < 4611686018427387904)
    (hmono : ∀ s t, a ≤ s → s ≤ t → t < m → cf d[m]! d[s]! < 0 → cf d[m]! d[t]! < 0) :
    Calls P 94 #[.slice (some ⟨blk, off, none⟩) d.size cap, .int .i64 a, .int .i64 m, .int .i64 b, .func (.func g) #[] cb] w fun e w' =>
      e = .returned (.tuple #[]) ∧ ∃ q os i, w' = SW enc k w blk off q (bwd d m (m - i)) os ∧ a ≤ i ∧ i ≤ m ∧ (∀ t, a ≤ t → t < i → 0 ≤ cf d[m]! d[t]!) ∧ (∀ t, i ≤ t → t < m → cf d[m]! d[t]! < 0) := by
  have mixed := L.mixed; have tS := L.tS; have aS := L.aS; have zS := L.zS; have vS := L.vS; have t3 := L.t3; have a3 := L.a3; have z3 := L.z3; have v3 := L.v3; have t4 := L.t4; have a4 := L.a4; have z4 := L.z4; have v4 := L.v4; have aE := L.aE; have zE := L.zE; have tU := L.tU; have aU := L.aU; have zU := L.zU; have vU := L.vU
  have uS := run_underlying L.tS
  have eIns := L.eIns; have eSwr := L.eSwr; have eRot := L.eRot; have eSym := L.eSym; have eStb := L.eStb
  have HC : Aside _ := hcmp
  have HM := hide hmono
  have HST : Hid (w = SW enc k w blk off 0 d #[]) := by show w = _; unfold SW sortWorldK; rw [grow_empty]; exact (putRowK_self enc k w blk off d hH).symm
  have HH : Hid (HoldsK enc k w blk off d) := hH
  have HK : Hid (∀ x, (enc x).length = k) := hk
  have H1 : Hid (∀ x, ∀ v ∈ enc x, v.oneCell' = true) := h1
  clear hH hk h1 hcmp hmono
  have hm1 : (((m : Int) - (a : Int)) == 1) = false := by simp; omega
  have hm2 : (((b : Int) - (m : Int)) == 1) = true := by simp; omega
  have hmb' : m < b := by omega
  have HMB := hide hmb
  clear hmb
  go_enter L.fSym, Try.ntmps94
  go_wp2
  go_loopg [14, 15] (b - a) (fun g1 vi vj wr => ∃ (i j q : Nat) (os : Array Obj), vi = .int .i64 i ∧ vj = .int .i64 j ∧ a ≤ i ∧ i ≤ j ∧ j ≤ m ∧ j - i ≤ g1 ∧ wr = SW enc k w blk off q d os ∧ Hid (∀ t, a ≤ t → t < i → 0 ≤ cf d[m]! d[t]!) ∧ Hid (∀ t, j ≤ t → t < m → cf d[m]! d[t]! < 0))
  case atStart => exact ⟨a, m, 0, #[], rfl, rfl, by omega, by omega, by omega, by omega, HST.out, hide fun t h h' => by omega, hide fun t h h' => by omega⟩
  case round =>
    obtain ⟨i, j, q, os, rfl, rfl, hi, hij, hj, hg1, hwr, HLO, HHI⟩ := hrel
    obtain ⟨dk, hdk⟩ : ∃ dk, dk = d := ⟨d, rfl⟩
    have hS : dk.size = d.size := by rw [hdk]
    have HQ : Hid (wr = SW enc k w blk off q dk os) := by show _ = _; rw [hdk]; exact hwr
    have HD := hide hdk
    clear hwr hdk
    generalize wr = wq at *
    by_cases hlt : i < j
    · obtain ⟨h, hh⟩ : ∃ h, h = (i + j) / 2 := ⟨_, rfl⟩
      have h2 : i ≤ h ∧ h < j := by omega
      have x1 : ((i : Int) + (j : Int)) / 2 = (h : Int) := by omega
      have HH2 := hide hh
      clear hh
      have z5 : (h : Int) < (d.size : Int) := by omega
      have z6 : (m : Int) < (d.size : Int) := by omega
      have hcls : ∀ n' os', grow (wq.drewN n') os' = SW enc k w blk off (q + n') dk (os ++ os') := fun n' os' => by rw [HQ.out]; exact sortWorldK_grown_c enc k w blk off q n' dk os os'
      have hHc : ∀ n' os', HoldsK enc k (grow (wq.drewN n') os') blk off dk := fun n' os' => by rw [hcls]; exact holdsK_sortWorldK_c enc k w blk off d dk _ _ HH.out hblk hS
      have l1 : ∀ n' os', Sem.run P (loadCellsFrom ⟨blk, off + (m) * k, none⟩ 0 k #[]) (grow (wq.drewN n') os') = .ok (enc dk[m]!).toArray (grow (wq.drewN n') os') := fun n' os' => loads P HK.out (hHc n' os') (by omega)
      have l2 : ∀ n' os', Sem.run P (loadCellsFrom ⟨blk, off + (h) * k, none⟩ 0 k #[]) (grow (wq.drewN n') os') = .ok (enc dk[h]!).toArray (grow (wq.drewN n') os') := fun n' os' => loads P HK.out (hHc n' os') (by omega)
      have hcg : ∀ n' os', Calls P g (#[.agg (enc dk[m]!).toArray, .agg (enc dk[h]!).toArray] ++ cb) (grow (wq.drewN n') os') fun e w' => e = .returned (.int .i64 (cf dk[m]! dk[h]!)) ∧ ∃ q os'', w' = grow ((grow (wq.drewN n') os').drewN q) os'' := fun n' os' => by
        rw [hcls]; exact HC.out _ _ dk hS dk[m]! dk[h]!
      have CLS : Hid _ := hcls
      clear hcls hHc
      by_cases hlv : cf dk[m]! dk[h]! < 0
      · have hb1 : decide (0 ≤ cf dk[m]! dk[h]!) = false := by simp; omega
        have hb2 : decide (cf dk[m]! dk[h]! < 0) = true := by simp; omega
        go_wp2_with fail
        go_quiet_grown (first | (go_at_fn g; refine Calls.grown_of (hcg _ _)))
        go_wp2
        have hlv' : cf d[m]! d[h]! < 0 := by rw [← HD.out]; exact hlv
        go_roundg (h - i)
        case measure => omega
        case rel => exact ⟨i, h, q + nq, os ++ osq, rfl, rfl, hi, by omega, by omega, Nat.le_refl _, by rw [CLS.out, HD.out], HLO, hide fun t h3 h4 => HM.out h t (by omega) h3 h4 hlv'⟩
      · have hb1 : decide (0 ≤ cf dk[m]! dk[h]!) = true := by simp; omega
        have hb2 : decide (cf dk[m]! dk[h]! < 0) = false := by simp; omega
        go_wp2_with fail
        go_quiet_grown (first | (go_at_fn g; refine Calls.grown_of (hcg _ _)))
        go_wp2
        have hlv' : ¬ cf d[m]! d[h]! < 0 := by have e := hlv; rw [HD.out] at e; omega
        go_roundg (j - (h + 1))
        case measure => omega
        case rel => exact ⟨h + 1, j, q + nq, os ++ osq, by go_num, rfl, by omega, by omega, hj, Nat.le_refl _, by rw [CLS.out, HD.out], hide fun t h3 h4 => Int.not_lt.1 fun hc => hlv' (HM.out t h h3 (by omega) (by omega) hc), HHI⟩
    · obtain rfl : i = j := by omega
      go_wp2
      go_loopg [17] (m - i) (fun g2 vk wr2 => ∃ (c q : Nat) (os : Array Obj), vk = .int .i64 c ∧ i ≤ c ∧ c ≤ m ∧ c - i ≤ g2 ∧ wr2 = SW enc k w blk off q (bwd d m (m - c)) os)
      case atStart => exact ⟨m, q, os, rfl, by omega, by omega, by omega, by rw [HQ.out, HD.out, Nat.sub_self]; rfl⟩
      case round =>
        clear HQ HD hS
        obtain ⟨c, q2, os2, rfl, hc1, hc2, hg2, hwr⟩ := hrel
        by_cases hlt2 : i < c
        · obtain ⟨p, rfl⟩ : ∃ p, c = p + 1 := ⟨c - 1, by omega⟩
          have hS : (bwd d m (m - (p + 1))).size = d.size := bwd_size d m _
          have HNX : Hid (swp (bwd d m (m - (p + 1))) (p + 1) p = bwd d m (m - p)) := bwd_step d hc2
          generalize bwd d m (m - (p + 1)) = dk at *
          have HQ : Hid (wr = SW enc k w blk off q2 dk os2) := hwr
          clear hwr
          generalize wr = wq at *
          have x1 : IntKind.i64.wrap (p : Int) = (p : Int) := IntWalk.i64_in _ (by omega)
          have y1 : ((p : Int) + 1).toNat = p + 1 := by omega
          have z1 : (0 : Int) ≤ (p : Int) + 1 := by omega
          have z5 : (p : Int) + 1 < (d.size : Int) := by omega
          have z6 : (p : Int) < (d.size : Int) := by omega
          have hHd : HoldsK enc k wq.drew blk off dk := by
            have : HoldsK enc k wq blk off dk := by rw [HQ.out]; exact holdsK_sortWorldK_c enc k w blk off d dk _ _ HH.out hblk hS
            exact this
          have hI : (p + 1) < dk.size := (by omega)
          have hJ : (p) < dk.size := (by omega)
          have lI := loads P HK.out hHd hI
          have lJ := loads P HK.out hHd hJ
          have s1 := stores1 P HK.out H1.out hHd hI dk[(p)]!
          have s2 := stores2 P HK.out H1.out hHd hI hJ dk[(p)]! dk[(p + 1)]!
          have hl1 : (enc dk[(p + 1)]!).length = k := HK.out _
          have hl2 : (enc dk[(p)]!).length = k := HK.out _
          obtain ⟨c1, hc1⟩ : ∃ c, c = enc dk[(p + 1)]! := ⟨_, rfl⟩
          obtain ⟨c2, hc2⟩ : ∃ c, c = enc dk[(p)]! := ⟨_, rfl⟩
          rw [← hc1] at lI hl1
          rw [← hc2] at lJ s1 hl2
          rw [← hc1, ← hc2] at s2
          have CC : Hid (c1 = enc dk[(p + 1)]! ∧ c2 = enc dk[(p)]!) := ⟨hc1, hc2⟩
          clear hc1 hc2 hHd hI hJ
          go_wp2_with fail
          go_big_region_o
          all_goals go_wp2
          go_roundg (p - i)
          case measure => omega
          case rel =>
            refine ⟨p, q2 + 1, os2, by go_num, by omega, by omega, Nat.le_refl _, ?_⟩
            rw [← HNX.out, CC.out.1, CC.out.2, HQ.out]
            exact sortWorldK_swp_c enc k w blk off HK.out q2 dk os2 hblk (p + 1) p (by omega) (by omega)
        · obtain rfl : c = i := by omega
          go_wp2
          exact bodyPost_ret (v := .tuple #[]) (results_none rfl _ _ _) rfl ⟨rfl, q2, os2, c, rfl, hi, hj, HLO.out, HHI.out⟩
end
end StabAt
end Go.Proofs.Ytcpnfcnobnjhdaa
