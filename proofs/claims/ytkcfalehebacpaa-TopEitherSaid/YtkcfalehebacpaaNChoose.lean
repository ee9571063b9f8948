/- choices: the walk. -/
import Derived.Test.YtkcfalehebacpaaNValid
import Derived.Test.YtkcfalehebacpaaGrid
import Derived.Test.YtkcfalehebacpaaMatchM
namespace Go.Proofs.Ytkcfalehebacpaa
open Go Go.RowKit
def chooseK (ns : List Nit) (k : Nat) (j : Job) : List Int := chooseF (ns.take k) j
theorem chooseK_zero (ns : List Nit) (j : Job) : chooseK ns 0 j = [] := rfl
theorem chooseK_all (ns : List Nit) (j : Job) : chooseK ns ns.length j = chooseF ns j := by unfold chooseK; rw [List.take_length]
theorem chooseK_succ {ns : List Nit} {k : Nat} {n : Nit} (h : ns[k]? = some n) (j : Job) : chooseK ns (k + 1) j = if fitsF j n then chooseK ns k j ++ [(k : Int)] else chooseK ns k j := by
  have hk : (ns.take k).length = k := by rw [List.length_take]; have := (List.getElem?_eq_some_iff.1 h).1; omega
  unfold chooseK chooseF
  rw [List.take_add_one, h, Option.toList_some, List.zipIdx_append, List.filter_append, List.map_append, hk]
  simp only [Nat.zero_add, List.zipIdx_cons, List.zipIdx_nil, List.filter_cons, List.filter_nil]
  split <;> simp
theorem chooseK_le (ns : List Nit) (k : Nat) (j : Job) : (chooseK ns k j).length ≤ k := by
  unfold chooseK chooseF
  rw [List.length_map]
  refine Nat.le_trans (List.length_filter_le _ _) ?_
  rw [List.length_zipIdx, List.length_take]
  omega
def chooseL (ns : List Nit) (js : List Job) : List (List Int) := js.map (chooseF ns)
/-- the rows: done before job i, of job i up to night k -/
def rowsIK (ns : List Nit) (js : List Job) (i k : Nat) : List (List Int) := js.zipIdx.map fun q => if q.2 < i then chooseF ns q.1 else if q.2 = i then chooseK ns k q.1 else []
theorem rowsIK_len (ns : List Nit) (js : List Job) (i k : Nat) : (rowsIK ns js i k).length = js.length := by simp [rowsIK]
theorem rowsIK_get {ns : List Nit} {js : List Job} {q : Nat} {x : Job} (h : js[q]? = some x) (i k : Nat) : (rowsIK ns js i k)[q]? = some (if q < i then chooseF ns x else if q = i then chooseK ns k x else []) := by
  unfold rowsIK
  rw [List.getElem?_map, List.getElem?_zipIdx, h]; simp
theorem rowsIK_none {ns : List Nit} {js : List Job} {q : Nat} (h : js.length ≤ q) (i k : Nat) : (rowsIK ns js i k)[q]? = none := List.getElem?_eq_none (by rw [rowsIK_len]; exact h)
theorem rowsIK_ext {ns : List Nit} {js : List Job} {L : List (List Int)} {i k : Nat} (hl : L.length = js.length) (h : ∀ (q : Nat) x, js[q]? = some x → L[q]? = some (if q < i then chooseF ns x else if q = i then chooseK ns k x else [])) : L = rowsIK ns js i k := by
  refine List.ext_getElem? fun q => ?_
  rcases Nat.lt_or_ge q js.length with hq | hq
  · rw [h q _ (List.getElem?_eq_getElem hq), rowsIK_get (List.getElem?_eq_getElem hq)]
  · rw [rowsIK_none hq, List.getElem?_eq_none (by omega)]
theorem rowsIK_start (ns : List Nit) (js : List Job) : List.replicate js.length [] = rowsIK ns js 0 0 := rowsIK_ext (by simp) fun q x h => by
  have hq := (List.getElem?_eq_some_iff.1 h).1
  rw [List.getElem?_replicate, if_pos hq]
  simp [chooseK_zero]
theorem rowsIK_next (ns : List Nit) (js : List Job) (i : Nat) : rowsIK ns js i ns.length = rowsIK ns js (i + 1) 0 := rowsIK_ext (rowsIK_len _ _ _ _) fun q x h => by
  rw [rowsIK_get h]
  by_cases h1 : q < i
  · rw [if_pos h1, if_pos (by omega)]
  · rw [if_neg h1]
    by_cases h2 : q = i
    · rw [if_pos h2, if_pos (by omega), chooseK_all]
    · rw [if_neg h2, if_neg (by omega)]
      by_cases h3 : q = i + 1
      · rw [if_pos h3]; rfl
      · rw [if_neg h3]
theorem rowsIK_yes {ns : List Nit} {js : List Job} {i k : Nat} {x : Job} {n : Nit} (hx : js[i]? = some x) (hn : ns[k]? = some n) (hf : fitsF x n = true) : (rowsIK ns js i k).modify i (fun l => l ++ [(k : Int)]) = rowsIK ns js i (k + 1) := rowsIK_ext (by simp [rowsIK_len]) fun q y h => by
  rw [modify_get, rowsIK_get h]
  by_cases h1 : i = q
  · subst h1
    rw [hx] at h
    injection h with h
    subst h
    rw [if_pos rfl, if_neg (Nat.lt_irrefl _), if_pos rfl, if_neg (Nat.lt_irrefl _), if_pos rfl, chooseK_succ hn, hf]; rfl
  · rw [if_neg h1]
    by_cases h2 : q < i
    · rw [if_pos h2, if_pos h2]
    · rw [if_neg h2, if_neg h2, if_neg (fun e => h1 e.symm), if_neg (fun e => h1 e.symm)]
theorem rowsIK_no {ns : List Nit} {js : List Job} {i k : Nat} {x : Job} {n : Nit} (hx : js[i]? = some x) (hn : ns[k]? = some n) (hf : fitsF x n = false) : rowsIK ns js i k = rowsIK ns js i (k + 1) := rowsIK_ext (rowsIK_len _ _ _ _) fun q y h => by
  rw [rowsIK_get h]
  by_cases h2 : q < i
  · rw [if_pos h2, if_pos h2]
  · rw [if_neg h2, if_neg h2]
    by_cases h1 : q = i
    · subst h1
      rw [hx] at h
      injection h with h
      subst h
      rw [if_pos rfl, if_pos rfl, chooseK_succ hn, hf]; rfl
    · rw [if_neg h1, if_neg h1]
theorem rowsIK_end (ns : List Nit) (js : List Job) : rowsIK ns js js.length 0 = chooseL ns js := (rowsIK_ext (by simp [chooseL]) fun q x h => by
  have hq := (List.getElem?_eq_some_iff.1 h).1
  unfold chooseL
  rw [if_pos hq, List.getElem?_map, h]; rfl).symm
theorem chooseF_mem {ns : List Nit} {j : Job} {v : Int} : v ∈ chooseF ns j ↔ ∃ (k : Nat) (n : Nit), v = k ∧ ns[k]? = some n ∧ fitsF j n = true := by
  unfold chooseF
  simp only [List.mem_map, List.mem_filter]
  constructor
  · rintro ⟨⟨n, k⟩, ⟨h1, h2⟩, h3⟩
    exact ⟨k, n, h3.symm, List.mem_zipIdx_iff_getElem?.1 h1, h2⟩
  · rintro ⟨k, n, h1, h2, h3⟩
    exact ⟨(n, k), ⟨List.mem_zipIdx_iff_getElem?.2 h2, h3⟩, h1.symm⟩
theorem chooseK_asc : ∀ (ns : List Nit) (j : Job) (k : Nat), k ≤ ns.length → (chooseK ns k j).Pairwise (· < ·)
  | ns, j, 0, _ => by rw [chooseK_zero]; exact List.Pairwise.nil
  | ns, j, k + 1, hk => by
    have hn : ns[k]? = some ns[k] := List.getElem?_eq_getElem (by omega)
    rw [chooseK_succ hn]
    have ih := chooseK_asc ns j k (by omega)
    split
    · rw [List.pairwise_append]
      refine ⟨ih, by simp, fun a ha b hb => ?_⟩
      rw [List.mem_singleton] at hb
      subst hb
      unfold chooseK at ha
      obtain ⟨q, n, h1, h2, _⟩ := chooseF_mem.1 ha
      have := (List.getElem?_eq_some_iff.1 h2).1
      rw [List.length_take] at this
      omega
    · exact ih
theorem chooseF_asc (ns : List Nit) (j : Job) : (chooseF ns j).Pairwise (· < ·) := by rw [← chooseK_all]; exact chooseK_asc ns j ns.length (Nat.le_refl _)
theorem job_at {w : World} {B : Nat} {A : Option Addr} {xs : List Job} {k : Nat} (h : Slc Job.enc 8 w B A xs) (hk : k < xs.length) :
    ∃ n b off, xs[k]? = some n ∧ A = some ⟨b, off, none⟩ ∧ b < B ∧ ∀ (j : Nat) v, n.enc[j]? = some v → w.cell? ⟨b, off + k * 8 + j, none⟩ = some v := by
  have hx : xs[k]? = some xs[k] := List.getElem?_eq_getElem hk
  obtain ⟨b, off, ha, hb, h0⟩ := h k _ hx
  exact ⟨xs[k], b, off, hx, ha, hb, h0⟩
theorem nitc_at {w : World} {B : Nat} {A : Option Addr} {xs : List Nit} {k : Nat} (h : Slc Nit.enc 8 w B A xs) (hk : k < xs.length) :
    ∃ n b off, xs[k]? = some n ∧ A = some ⟨b, off, none⟩ ∧ b < B ∧ ∀ (j : Nat) v, n.enc[j]? = some v → w.cell? ⟨b, off + k * 8 + j, none⟩ = some v := by
  have hx : xs[k]? = some xs[k] := List.getElem?_eq_getElem hk
  obtain ⟨b, off, ha, hb, h0⟩ := h k _ hx
  exact ⟨xs[k], b, off, hx, ha, hb, h0⟩
/-- the rows in memory -/
theorem Grid.nest {B : Nat} {w : World} {bp : Nat} {vs : List Value} {pl : List (List Int)} (h : Grid B w bp vs pl) : NestIn (fun b => b < w.heap.size) w (some ⟨bp, 0, none⟩) pl := fun i l hl => by
  obtain ⟨v, h1, h2, h3⟩ := h.row hl
  obtain ⟨A, c, rfl, hS⟩ := h2.form fun _ => rfl
  refine ⟨bp, 0, A, c, rfl, h.blk.lt, by simpa using h3, fun j x hx => ?_⟩
  obtain ⟨b, off, g1, g2, g3⟩ := hS j x hx
  exact ⟨b, off, g1, g2, by simpa using g3 0 (.int .i64 x) rfl⟩
def ChoosePost (ns : List Nit) (js : List Job) (w : World) (e : Ending) (w' : World) : Prop :=
  ∃ A c', e = .returned (.slice A (chooseL ns js).length c') ∧ Below w.heap.size w w' ∧ NestIn (fun b => b < w'.heap.size) w' A (chooseL ns js)
set_option maxRecDepth 100000 in
set_option maxHeartbeats 4000000 in
theorem choices_any (AJ : Option Addr) (cJ : Nat) (js : List Job) (AN : Option Addr) (cN : Nat) (ns : List Nit) (w : World) (hJ : Slc Job.enc 8 w w.heap.size AJ js) (hN : Slc Nit.enc 8 w w.heap.size AN ns) (hl1 : js.length ≤ 1000) (hl2 : ns.length ≤ 1000) :
    Calls Try.prog 27 #[.slice AJ js.length cJ, .slice AN ns.length cN] w (ChoosePost ns js w) := by
  have et : ElemT Try.prog 26 3 1 := elemT_mk Try.underlying26 (z := .int .i64 0) (bytes := 8) (by kernel_rfl) rfl (by omega) (by omega)
  have hmk : ∀ w, (Instr.makeSlice 73 (.int .i64 js.length) (.int .i64 js.length)).run Try.prog w = .ok (.slice (some ⟨w.heap.size, 0, none⟩) js.length js.length) (w.alloc (.cells (Array.replicate js.length (Value.slice none 0 0)) 26)) := fun w => by
    have := run_make1 (P := Try.prog) (bytes := 24) (z := .slice none 0 0) Try.underlying73 (by kernel_rfl) rfl (by omega) js.length (by omega) w
    simpa using this
  have hG0 := Blk.new w 26 (Array.replicate js.length (Value.slice none 0 0))
  have hB := (Below.refl w.heap.size w).alloc (Nat.le_refl _) (.cells (Array.replicate js.length (Value.slice none 0 0)) 26)
  have hz : w.heap.size + 1 ≤ (w.alloc (.cells (Array.replicate js.length (Value.slice none 0 0)) 26)).heap.size := by simp
  have ET := hide et
  clear et
  go_enter Try.func27, Try.ntmps27
  go_wp2_with fail
  clear hmk
  generalize w.alloc (.cells (Array.replicate js.length (Value.slice none 0 0)) 26) = W at *
  have hG : Grid (w.heap.size + 1) W w.heap.size (List.replicate js.length (.slice none 0 0)) (rowsIK ns js 0 0) := by
    rw [← rowsIK_start]
    refine ⟨by simpa using hG0, by simp, fun i v l h1 h2 => ?_, fun i j v v' _ h1 _ g hg => ?_, Nat.lt_succ_self _⟩
    · simp [List.getElem?_replicate] at h1 h2
      rw [← h1.2, h2.2]
      exact Own.nil_
    · simp [List.getElem?_replicate] at h1
      rw [← h1.2] at hg
      cases hg
  clear hG0
  go_loopw [15] (fun y W => ∃ (i : Nat) (vs : List Value), y = .int .i64 i ∧ i ≤ js.length ∧ Grid (w.heap.size + 1) W w.heap.size vs (rowsIK ns js i 0) ∧ w.heap.size + 1 ≤ W.heap.size ∧ Below w.heap.size w W) (fun y _ => js.length - (intOf y).toNat)
  case atStart => exact ⟨0, _, rfl, Nat.zero_le _, hG, hz, hB⟩
  case round =>
    clear hG hz hB
    obtain ⟨W, rfl⟩ : ∃ W : World, W = wr := ⟨_, rfl⟩
    obtain ⟨i, vs, rfl, hi, hG, hz, hB⟩ := hrel
    by_cases hlt : i < js.length
    · obtain ⟨x, b, off, hx, hA, hb0, hcn⟩ := job_at (hJ.below hB) hlt
      have hji : (i : Int) < (js.length : Int) := by omega
      have HX := hide hx
      have d0 := hcn 0 _ rfl
      rw [Nat.add_zero] at d0
      have d1 := hcn 1 _ rfl
      have d2 := hcn 2 _ rfl
      have d3 := hcn 3 _ rfl
      have d4 := hcn 4 _ rfl
      have d5 := hcn 5 _ rfl
      have d6 := hcn 6 _ rfl
      have d7 := hcn 7 _ rfl
      clear hcn
      clear hx
      subst hA
      have hzo := hz
      go_upto_region 5 with fail
      have hx := Blk.new W 67 #[.int .i64 x.n, .int .i64 x.road, .int .i64 x.chain, .int .i64 x.first, .int .i64 x.last, .int .i64 x.crew, .bool x.dry, .bool x.warm]
      replace hG := hG.below ((Below.refl _ W).alloc (Nat.le_refl _) (.cells #[.int .i64 x.n, .int .i64 x.road, .int .i64 x.chain, .int .i64 x.first, .int .i64 x.last, .int .i64 x.crew, .bool x.dry, .bool x.warm] 67))
      replace hz := Nat.le_trans hz ((Below.refl _ W).alloc (Nat.le_refl _) (.cells #[.int .i64 x.n, .int .i64 x.road, .int .i64 x.chain, .int .i64 x.first, .int .i64 x.last, .int .i64 x.crew, .bool x.dry, .bool x.warm] 67)).size
      have hsz_bx : (W.alloc (.cells #[.int .i64 x.n, .int .i64 x.road, .int .i64 x.chain, .int .i64 x.first, .int .i64 x.last, .int .i64 x.crew, .bool x.dry, .bool x.warm] 67)).heap.size = W.heap.size + 1 := by simp
      have bxge := hB.size
      replace hB := hB.alloc hB.size (.cells #[.int .i64 x.n, .int .i64 x.road, .int .i64 x.chain, .int .i64 x.first, .int .i64 x.last, .int .i64 x.crew, .bool x.dry, .bool x.warm] 67)
      generalize hbx : W.heap.size = bx at *
      generalize W.alloc (.cells #[.int .i64 x.n, .int .i64 x.road, .int .i64 x.chain, .int .i64 x.first, .int .i64 x.last, .int .i64 x.crew, .bool x.dry, .bool x.warm] 67) = W at *
      clear hbx
      have q0 := hx.cell_ 0 rfl
      have q1 := hx.cell_ 1 rfl
      have q2 := hx.cell_ 2 rfl
      have q3 := hx.cell_ 3 rfl
      have q4 := hx.cell_ 4 rfl
      have q5 := hx.cell_ 5 rfl
      have q6 := hx.cell_ 6 rfl
      have q7 := hx.cell_ 7 rfl
      clear d0 d1 d2 d3 d4 d5 d6 d7
      have hbx : w.heap.size + 1 ≤ bx := hzo
      clear hzo
      go_wp2_with fail
      clear q0 q1 q2 q3 q4 q5 q6 q7
      go_loopw [22] (fun y W => ∃ (k : Nat) (vs : List Value), y = .int .i64 k ∧ k ≤ ns.length ∧ Grid (w.heap.size + 1) W w.heap.size vs (rowsIK ns js i k) ∧ w.heap.size + 1 ≤ W.heap.size ∧ Blk W bx 67 #[.int .i64 x.n, .int .i64 x.road, .int .i64 x.chain, .int .i64 x.first, .int .i64 x.last, .int .i64 x.crew, .bool x.dry, .bool x.warm] ∧ Below w.heap.size w W) (fun y _ => ns.length - (intOf y).toNat)
      case atStart => exact ⟨0, _, rfl, Nat.zero_le _, hG, hz, hx, hB⟩
      case round =>
        clear hG hz hB hx hsz_bx
        obtain ⟨W, rfl⟩ : ∃ W : World, W = wr := ⟨_, rfl⟩
        obtain ⟨k, vs, rfl, hk, hG, hz, hx, hB⟩ := hrel
        by_cases hltk : k < ns.length
        · obtain ⟨n, b2, off2, hn, hA2, hb2, hcn⟩ := nitc_at (hN.below hB) hltk
          have hki : (k : Int) < (ns.length : Int) := by omega
          have HN := hide hn
          have d0 := hcn 0 _ rfl
          rw [Nat.add_zero] at d0
          have d1 := hcn 1 _ rfl
          have d2 := hcn 2 _ rfl
          have d3 := hcn 3 _ rfl
          have d4 := hcn 4 _ rfl
          have d5 := hcn 5 _ rfl
          have d6 := hcn 6 _ rfl
          have d7 := hcn 7 _ rfl
          clear hcn
          clear hn
          subst hA2
          have q0 := hx.cell_ 0 rfl
          have q1 := hx.cell_ 1 rfl
          have q2 := hx.cell_ 2 rfl
          have q3 := hx.cell_ 3 rfl
          have q4 := hx.cell_ 4 rfl
          have q5 := hx.cell_ 5 rfl
          have q6 := hx.cell_ 6 rfl
          have q7 := hx.cell_ 7 rfl
          have q_q0 := (hx.alloc (.cells #[.int .i64 n.day, .int .i64 n.road, .int .i64 n.lo, .int .i64 n.hi, .int .i64 n.crew, .int .i64 n.pl, .bool n.rain, .bool n.frost] 69)).cell_ 0 rfl
          have q_q1 := (hx.alloc (.cells #[.int .i64 n.day, .int .i64 n.road, .int .i64 n.lo, .int .i64 n.hi, .int .i64 n.crew, .int .i64 n.pl, .bool n.rain, .bool n.frost] 69)).cell_ 1 rfl
          have q_q2 := (hx.alloc (.cells #[.int .i64 n.day, .int .i64 n.road, .int .i64 n.lo, .int .i64 n.hi, .int .i64 n.crew, .int .i64 n.pl, .bool n.rain, .bool n.frost] 69)).cell_ 2 rfl
          have q_q3 := (hx.alloc (.cells #[.int .i64 n.day, .int .i64 n.road, .int .i64 n.lo, .int .i64 n.hi, .int .i64 n.crew, .int .i64 n.pl, .bool n.rain, .bool n.frost] 69)).cell_ 3 rfl
          have q_q4 := (hx.alloc (.cells #[.int .i64 n.day, .int .i64 n.road, .int .i64 n.lo, .int .i64 n.hi, .int .i64 n.crew, .int .i64 n.pl, .bool n.rain, .bool n.frost] 69)).cell_ 4 rfl
          have q_q5 := (hx.alloc (.cells #[.int .i64 n.day, .int .i64 n.road, .int .i64 n.lo, .int .i64 n.hi, .int .i64 n.crew, .int .i64 n.pl, .bool n.rain, .bool n.frost] 69)).cell_ 5 rfl
          have q_q6 := (hx.alloc (.cells #[.int .i64 n.day, .int .i64 n.road, .int .i64 n.lo, .int .i64 n.hi, .int .i64 n.crew, .int .i64 n.pl, .bool n.rain, .bool n.frost] 69)).cell_ 6 rfl
          have q_q7 := (hx.alloc (.cells #[.int .i64 n.day, .int .i64 n.road, .int .i64 n.lo, .int .i64 n.hi, .int .i64 n.crew, .int .i64 n.pl, .bool n.rain, .bool n.frost] 69)).cell_ 7 rfl
          go_upto_region 8 with fail
          clear q_q0 q_q1 q_q2 q_q3 q_q4 q_q5 q_q6 q_q7
          clear q0 q1 q2 q3 q4 q5 q6 q7
          have hn := Blk.new W 69 #[.int .i64 n.day, .int .i64 n.road, .int .i64 n.lo, .int .i64 n.hi, .int .i64 n.crew, .int .i64 n.pl, .bool n.rain, .bool n.frost]
          replace hG := hG.below ((Below.refl _ W).alloc (Nat.le_refl _) (.cells #[.int .i64 n.day, .int .i64 n.road, .int .i64 n.lo, .int .i64 n.hi, .int .i64 n.crew, .int .i64 n.pl, .bool n.rain, .bool n.frost] 69))
          replace hz := Nat.le_trans hz ((Below.refl _ W).alloc (Nat.le_refl _) (.cells #[.int .i64 n.day, .int .i64 n.road, .int .i64 n.lo, .int .i64 n.hi, .int .i64 n.crew, .int .i64 n.pl, .bool n.rain, .bool n.frost] 69)).size
          replace hx := hx.alloc (.cells #[.int .i64 n.day, .int .i64 n.road, .int .i64 n.lo, .int .i64 n.hi, .int .i64 n.crew, .int .i64 n.pl, .bool n.rain, .bool n.frost] 69)
          have hsz_bn : (W.alloc (.cells #[.int .i64 n.day, .int .i64 n.road, .int .i64 n.lo, .int .i64 n.hi, .int .i64 n.crew, .int .i64 n.pl, .bool n.rain, .bool n.frost] 69)).heap.size = W.heap.size + 1 := by simp
          have bnge := hB.size
          replace hB := hB.alloc hB.size (.cells #[.int .i64 n.day, .int .i64 n.road, .int .i64 n.lo, .int .i64 n.hi, .int .i64 n.crew, .int .i64 n.pl, .bool n.rain, .bool n.frost] 69)
          generalize hbn : W.heap.size = bn at *
          generalize W.alloc (.cells #[.int .i64 n.day, .int .i64 n.road, .int .i64 n.lo, .int .i64 n.hi, .int .i64 n.crew, .int .i64 n.pl, .bool n.rain, .bool n.frost] 69) = W at *
          clear hbn
          have q0 := hx.cell_ 0 rfl
          have q1 := hx.cell_ 1 rfl
          have q2 := hx.cell_ 2 rfl
          have q3 := hx.cell_ 3 rfl
          have q4 := hx.cell_ 4 rfl
          have q5 := hx.cell_ 5 rfl
          have q6 := hx.cell_ 6 rfl
          have q7 := hx.cell_ 7 rfl
          have m0 := hn.cell_ 0 rfl
          have m1 := hn.cell_ 1 rfl
          have m2 := hn.cell_ 2 rfl
          have m3 := hn.cell_ 3 rfl
          have m4 := hn.cell_ 4 rfl
          have m5 := hn.cell_ 5 rfl
          have m6 := hn.cell_ 6 rfl
          have m7 := hn.cell_ 7 rfl
          clear d0 d1 d2 d3 d4 d5 d6 d7
          clear hsz_bn
          go_wp2_with fail
          refine (fits_any x n _).mono ?_
          rintro e W ⟨rfl, hb⟩
          clear q0 q1 q2 q3 q4 q5 q6 q7 m0 m1 m2 m3 m4 m5 m6 m7
          replace hG := hG.below hb
          replace hz := Nat.le_trans hz hb.size
          replace hx := hx.below hb hx.lt
          replace hn := hn.below hb hn.lt
          replace hB := hB.trans (hb.mono hB.size)
          clear hb
          have q0 := hx.cell_ 0 rfl
          have q1 := hx.cell_ 1 rfl
          have q2 := hx.cell_ 2 rfl
          have q3 := hx.cell_ 3 rfl
          have q4 := hx.cell_ 4 rfl
          have q5 := hx.cell_ 5 rfl
          have q6 := hx.cell_ 6 rfl
          have q7 := hx.cell_ 7 rfl
          have m0 := hn.cell_ 0 rfl
          have m1 := hn.cell_ 1 rfl
          have m2 := hn.cell_ 2 rfl
          have m3 := hn.cell_ 3 rfl
          have m4 := hn.cell_ 4 rfl
          have m5 := hn.cell_ 5 rfl
          have m6 := hn.cell_ 6 rfl
          have m7 := hn.cell_ 7 rfl
          cases hf : fitsF x n
          case false =>
            have HR : Hid (rowsIK ns js i k = rowsIK ns js i (k + 1)) := rowsIK_no HX.out HN.out hf
            rw [HR.out] at hG
            clear hf
            go_wp2_with fail
            go_roundw
            case rel => exact ⟨k + 1, vs, by go_num, by omega, hG, hz, hx, hB⟩
            case measure => simp [intOf]; omega
          case true =>
            obtain ⟨v, hv, hown, hcv⟩ := hG.row (rowsIK_get HX.out i k)
            rw [if_neg (Nat.lt_irrefl _), if_pos rfl] at hown
            have hll : (chooseK ns k x).length ≤ 1000000000 := Nat.le_trans (chooseK_le _ _ _) (by omega)
            have hnj := own_ne_blk hown hx (by decide)
            have hge := own_ge hown
            have HV := hide (And.intro hv (And.intro hnj hge))
            have HR := hide (rowsIK_yes (k := k) HX.out HN.out hf)
            have HRG : Hid ((rowsIK ns js i k)[i]? = some (chooseK ns k x)) := (rowsIK_get (ns := ns) HX.out i k).trans (by rw [if_neg (Nat.lt_irrefl _), if_pos rfl])
            have HSZ : Hid (i < vs.toArray.size) := by show _ < _; have := (List.getElem?_eq_some_iff.1 hv).1; simpa using this
            have hlo := hG.lo
            clear hv hf hnj hge
            go_wp2_with (first
              | (at_builtin; refine wpList_app_lies _ _ rfl rfl ET.out (hown.alloc (.cells #[.int .i64 k] 3)) rfl rfl (y := (k : Int)) (Blk.new W 3 #[.int .i64 k]) rfl rfl rfl hll (by simp; omega) ?_; intro g cap W2 hown2 hgr hfr hglt; have hbp2 := (hG.blk.alloc (.cells #[.int .i64 k] 3)).grownv hgr (fun q hq => by have := HV.out.2.2 q hq; omega))
              | (refine wpList_store_at rfl 26 _ _ rfl (.slice (some ⟨g, 0, none⟩) ((chooseK ns k x).length + 1) cap) hbp2 rfl rfl (by kernel_rfl) rfl HSZ.out rfl ?_; intro W3 hbp3 hc3))
            rw [List.setIfInBounds_toArray] at hbp3
            have hal := (Below.refl W.heap.size W).alloc (Nat.le_refl _) (.cells #[.int .i64 k] 3)
            have hlr := HRG.out
            have hG3 := (hG.below hal).app HV.out.1 hlr hown2 hgr rfl (hfr.imp id (fun h => Nat.le_of_eq h.symm)) hbp3 hc3
            rw [HR.out] at hG3
            have hx3 := ((hx.alloc (.cells #[.int .i64 k] 3)).grownv hgr (fun q hq => HV.out.2.1 q hq)).chg1 hc3 (by omega)
            have hb1 : Below w.heap.size w (W.alloc (.cells #[.int .i64 k] 3)) := hB.trans (hal.mono hB.size)
            have hb2 := hb1.trans (grownv_below hgr hb1.size (fun q hq => by have := HV.out.2.2 q hq; omega))
            have hB3 := hb2.trans (hc3.below1 hb2.size (Nat.le_refl _))
            have hz3 : w.heap.size + 1 ≤ W3.heap.size := by have h1 := hgr.size; have h2 := hc3.size; have h3 := hal.size; omega
            clear hG hown hown2 hgr hfr hglt hbp2 hbp3 hc3 hal hb1 hb2 hcv hx hn hB hlr hz HV HRG HSZ
            go_roundw
            case rel => exact ⟨k + 1, _, by go_num, by omega, hG3, hz3, hx3, hB3⟩
            case measure => simp [intOf]; omega
        · obtain rfl : k = ns.length := by omega
          rw [rowsIK_next] at hG
          go_wp2_with fail
          go_roundw
          case rel => exact ⟨i + 1, vs, by go_num, by omega, hG, hz, hB⟩
          case measure => simp [intOf]; omega
    · obtain rfl : i = js.length := by omega
      rw [rowsIK_end] at hG
      have hl : Hid ((chooseL ns js).length = js.length) := by show _ = _; simp [chooseL]
      go_wp2_with fail
      go_ret
      exact ⟨some ⟨w.heap.size, 0, none⟩, js.length, by rw [hl.out]; rfl, hB, hG.nest⟩
end Go.Proofs.Ytkcfalehebacpaa
