/- Most, Plan, Best, Fits of package night; the sanity check. -/
import Derived.Test.YtkcfalehebacpaaNBest
namespace Go.Proofs.Ytkcfalehebacpaa
open Go Go.RowKit
theorem wrong_facts {js : List Job} {ns : List Nit} (h : wrongF js ns = 0) : jobsOk [] js = true ∧ js.length ≤ 60 ∧ ns.length ≤ 60 ∧ ∀ n ∈ ns, nitOk n = true := by
  unfold wrongF at h
  split at h
  · cases h
  · rename_i h1
    split at h
    · cases h
    · rename_i h2
      simp only [Bool.or_eq_true, Bool.not_eq_true', decide_eq_true_eq, not_or, List.any_eq_true, not_exists, not_and] at h1 h2
      refine ⟨by simpa using h1.1, by omega, by omega, fun n hn => ?_⟩
      have := h2.2 n hn
      simpa using this
theorem wrong_cases (js : List Job) (ns : List Nit) : wrongF js ns = 80 ∨ wrongF js ns = 81 ∨ wrongF js ns = 0 := by
  unfold wrongF
  split
  · exact .inl rfl
  · split
    · exact .inr (.inl rfl)
    · exact .inr (.inr rfl)
theorem cap_ok {ns : List Nit} (h : ∀ n ∈ ns, nitOk n = true) : CapOk (capOf ns) := fun k v hv => by
  unfold capOf at hv
  rw [List.getElem?_map] at hv
  cases hn : ns[k]? with
  | none => rw [hn] at hv; cases hv
  | some n =>
    rw [hn] at hv
    injection hv with hv
    have h1 := h n (List.mem_of_getElem? hn)
    unfold nitOk at h1
    simp only [Bool.and_eq_true, inB_iff] at h1
    omega
structure IsMost (C : List (List Int)) (cap : List Int) (n : Nat) : Prop where
  some_ : ∃ N, Pl C cap N ∧ doneN N = n
  most : ∀ N, Pl C cap N → doneN N ≤ n
theorem IsMost.one {C : List (List Int)} {cap : List Int} {n m : Nat} (h : IsMost C cap n) (g : IsMost C cap m) : n = m := by
  obtain ⟨N, h1, h2⟩ := h.some_
  obtain ⟨M, g1, g2⟩ := g.some_
  have := h.most M g1
  have := g.most N h1
  omega
theorem IsBest.most_ {C : List (List Int)} {cap N : List Int} (h : IsBest C cap N) : IsMost C cap (doneN N) := ⟨⟨N, h.pl, rfl⟩, h.most⟩
/-- what Most returns -/
def MostV (js : List Job) (ns : List Nit) (n : Nat) : Prop := (wrongF js ns = 0 → IsMost (chooseL ns js) (capOf ns) n) ∧ (wrongF js ns ≠ 0 → n = 0)
def ApiMostPost (js : List Job) (ns : List Nit) (w : World) (e : Ending) (w' : World) : Prop :=
  ∃ n : Nat, e = .returned (.tuple #[.int .i64 n, .int .i64 (wrongF js ns)]) ∧ Below w.heap.size w w' ∧ MostV js ns n
set_option maxRecDepth 100000 in
set_option maxHeartbeats 1000000 in
theorem apiMost_any (AJ : Option Addr) (cJ : Nat) (js : List Job) (AN : Option Addr) (cN : Nat) (ns : List Nit) (w : World) (hJ : Slc Job.enc 8 w w.heap.size AJ js) (hN : Slc Nit.enc 8 w w.heap.size AN ns) (hl1 : js.length ≤ 1000) (hl2 : ns.length ≤ 1000) :
    Calls Try.prog 8 #[.slice AJ js.length cJ, .slice AN ns.length cN] w (ApiMostPost js ns w) := by
  go_enter Try.func8, Try.ntmps8
  go_wp2_with fail
  refine (checked_any AJ cJ js AN cN ns w hJ hN hl1 hl2).mono ?_
  rintro e W ⟨rfl, hB⟩
  rcases wrong_cases js ns with h0 | h0 | h0
  · have HV : Hid (MostV js ns 0) := ⟨fun h => by omega, fun _ => rfl⟩
    have HW := hide h0
    rw [h0]
    clear h0
    go_wp2_with fail
    go_ret2
    exact ⟨0, by rw [HW.out]; rfl, hB, HV.out⟩
  · have HV : Hid (MostV js ns 0) := ⟨fun h => by omega, fun _ => rfl⟩
    have HW := hide h0
    rw [h0]
    clear h0
    go_wp2_with fail
    go_ret2
    exact ⟨0, by rw [HW.out]; rfl, hB, HV.out⟩
  · obtain ⟨_, f1, f2, f3⟩ := wrong_facts h0
    have HW := hide h0
    rw [h0]
    clear h0
    go_wp2_with fail
    refine (choices_any AJ cJ js AN cN ns W ((hJ.below hB).more hB.size) ((hN.below hB).more hB.size) hl1 hl2).mono ?_
    rintro e W1 ⟨AC, cC, rfl, hB1, hNest⟩
    go_wp2_with fail
    refine (most_any AC cC (chooseL ns js) AN cN ns W1 hNest ((hN.below (hB.trans (hB1.mono hB.size))).more (Nat.le_trans hB.size hB1.size)) (by unfold chooseL; rw [List.length_map]; omega) (by omega) (chooseL_rows ns js (by omega)) (chooseL_ok ns js) (cap_ok f3)).mono ?_
    rintro e W2 ⟨g, bp, bn, cP, cN, N, P, rfl, hM, hB2, _, _, _, hV, hSt⟩
    have HV : Hid (MostV js ns (doneN N)) := ⟨fun _ => ⟨⟨N, hV.pl_, rfl⟩, fun N' h => stuck_pl hV (cap_ok f3) hSt h⟩, fun h => absurd HW.out h⟩
    have hBB : Below w.heap.size w W2 := (hB.trans (hB1.mono hB.size)).trans (hB2.mono (Nat.le_trans hB.size hB1.size))
    clear hV hSt hM
    go_wp2_with fail
    go_ret2
    exact ⟨doneN N, by rw [HW.out]; rfl, hBB, HV.out⟩
/-- what Best returns -/
def BestV (js : List Job) (ns : List Nit) (N : List Int) : Prop := (wrongF js ns = 0 → IsBest (chooseL ns js) (capOf ns) N) ∧ (wrongF js ns ≠ 0 → N = [])
def ApiBestPost (js : List Job) (ns : List Nit) (w : World) (e : Ending) (w' : World) : Prop :=
  ∃ A c N, e = .returned (.tuple #[.slice A N.length c, .int .i64 (wrongF js ns)]) ∧ Below w.heap.size w w' ∧ Slc intEnc 1 w' w'.heap.size A N ∧ BestV js ns N
set_option maxRecDepth 100000 in
set_option maxHeartbeats 1000000 in
theorem apiBest_any (AJ : Option Addr) (cJ : Nat) (js : List Job) (AN : Option Addr) (cN : Nat) (ns : List Nit) (w : World) (hJ : Slc Job.enc 8 w w.heap.size AJ js) (hN : Slc Nit.enc 8 w w.heap.size AN ns) (hl1 : js.length ≤ 1000) (hl2 : ns.length ≤ 1000) :
    Calls Try.prog 24 #[.slice AJ js.length cJ, .slice AN ns.length cN] w (ApiBestPost js ns w) := by
  go_enter Try.func24, Try.ntmps24
  go_wp2_with fail
  refine (checked_any AJ cJ js AN cN ns w hJ hN hl1 hl2).mono ?_
  rintro e W ⟨rfl, hB⟩
  rcases wrong_cases js ns with h0 | h0 | h0
  · have HV : Hid (BestV js ns []) := ⟨fun h => by omega, fun _ => rfl⟩
    have HW := hide h0
    rw [h0]
    clear h0
    go_wp2_with fail
    go_ret2
    exact ⟨none, 0, [], by rw [HW.out]; rfl, hB, Slc.nil_, HV.out⟩
  · have HV : Hid (BestV js ns []) := ⟨fun h => by omega, fun _ => rfl⟩
    have HW := hide h0
    rw [h0]
    clear h0
    go_wp2_with fail
    go_ret2
    exact ⟨none, 0, [], by rw [HW.out]; rfl, hB, Slc.nil_, HV.out⟩
  · obtain ⟨_, f1, f2, f3⟩ := wrong_facts h0
    have HW := hide h0
    rw [h0]
    clear h0
    go_wp2_with fail
    refine (best_any AJ cJ js AN cN ns W ((hJ.below hB).more hB.size) ((hN.below hB).more hB.size) (by omega) (by omega) (cap_ok f3)).mono ?_
    rintro e W2 ⟨A, c, N, rfl, hB2, hS, hV⟩
    have HV : Hid (BestV js ns N) := ⟨fun _ => hV, fun h => absurd HW.out h⟩
    have hBB : Below w.heap.size w W2 := hB.trans (hB2.mono hB.size)
    clear hV
    go_wp2_with fail
    go_ret2
    exact ⟨A, c, N, by rw [HW.out]; rfl, hBB, hS, HV.out⟩
def j0a : Job := ⟨1, 5, 100, 10, 20, 1, false, false⟩
def j0b : Job := ⟨2, 5, 900, 10, 20, 1, false, false⟩
def n0 : Nit := ⟨12, 5, 0, 1000, 1, 1, false, false⟩
theorem aw_wrong : wrongF [j0a, j0b] [n0] = 0 := by decide
theorem aw_choose : chooseL [n0] [j0a, j0b] = [[0], [0]] := by decide
theorem aw_best : IsBest [[0], [0]] [1] [0, -1] := by
  have key : ∀ N, Pl [[0], [0]] [1] N → ∃ a b : Int, N = [a, b] ∧ (a = -1 ∨ a = 0) ∧ (b = -1 ∨ b = 0) ∧ ¬ (a = 0 ∧ b = 0) := fun N h => by
    obtain ⟨a, b, rfl⟩ : ∃ a b, N = [a, b] := by
      have h1 := h.len
      match N, h1 with
      | [a, b], _ => exact ⟨a, b, rfl⟩
    have ha := h.ok 0 a rfl
    have hb := h.ok 1 b rfl
    have hc := h.cnt 0 (by decide)
    refine ⟨a, b, rfl, ?_, ?_, ?_⟩
    · rcases ha with h1 | ⟨k, h1, h2, _⟩
      · exact .inl h1
      · right; simp at h2; omega
    · rcases hb with h1 | ⟨k, h1, h2, _⟩
      · exact .inl h1
      · right; simp at h2; omega
    · rintro ⟨rfl, rfl⟩
      revert hc
      decide
  refine ⟨⟨rfl, fun i v hv => ?_, fun k hk => ?_⟩, fun N' h => ?_, fun i v hv k hk N' h h1 h2 => ?_⟩
  · rcases i with _ | _ | i
    · simp at hv
      subst hv
      exact .inr ⟨0, rfl, by decide, fun l hl => by simp at hl; subst hl; simp⟩
    · simp at hv
      exact .inl hv.symm
    · simp at hv
  · obtain rfl : k = 0 := by simp at hk; exact hk
    decide
  · obtain ⟨a, b, rfl, ha, hb, hn⟩ := key N' h
    rcases ha with rfl | rfl <;> rcases hb with rfl | rfl <;> first | decide | exact absurd ⟨rfl, rfl⟩ hn
  · obtain ⟨a, b, rfl, ha, hb, hn⟩ := key N' h
    rcases i with _ | _ | i
    · simp at hv
      subst hv
      omega
    · have h3 := h2 0 (by omega)
      simp at h1 h3
      omega
    · simp at hv
theorem aw_most {n : Nat} (h : IsMost [[0], [0]] [1] n) : n = 1 := h.one aw_best.most_
theorem slc_one {α : Type} {f : α → List Value} {sz : Nat} {w : World} {g : Nat} {t : TypeId} {cs : Array Value} (h : Blk w g t cs) {l : List α} (hf : ∀ x, (f x).length = sz) (hcs : cs.toList = l.flatMap f) : Slc f sz w w.heap.size (some ⟨g, 0, none⟩) l := fun i x hx => by
  refine ⟨g, 0, rfl, h.lt, fun j v hv => ?_⟩
  have := flat_at hf l i x hx j v hv
  rw [← hcs] at this
  rw [Nat.zero_add]
  exact h.cell_ _ (by simpa using this)
set_option maxRecDepth 100000 in
set_option maxHeartbeats 2000000 in
theorem awake_any (w : World) : Calls Try.prog 7 #[] w fun e w' => e = .returned (.bool true) ∧ Below w.heap.size w w' := by
  have hj := Blk.new w 67 (j0a.enc ++ j0b.enc).toArray
  have hj2 := hj.alloc (.cells n0.enc.toArray 69)
  have hn := Blk.new (w.alloc (.cells (j0a.enc ++ j0b.enc).toArray 67)) 69 n0.enc.toArray
  rw [show (w.alloc (.cells (j0a.enc ++ j0b.enc).toArray 67)).heap.size = w.heap.size + 1 by simp] at hn
  have hB := ((Below.refl w.heap.size w).alloc (Nat.le_refl _) (.cells (j0a.enc ++ j0b.enc).toArray 67)).alloc (by simp) (.cells n0.enc.toArray 69)
  have hSJ : Slc Job.enc 8 _ _ (some ⟨w.heap.size, 0, none⟩) [j0a, j0b] := slc_one hj2 (fun _ => rfl) rfl
  have hSN : Slc Nit.enc 8 _ _ (some ⟨w.heap.size + 1, 0, none⟩) [n0] := slc_one hn (fun _ => rfl) rfl
  clear hj hj2 hn
  dsimp only [Job.enc, Nit.enc, j0a, j0b, n0, List.cons_append, List.nil_append] at hB hSJ hSN
  go_enter Try.func7, Try.ntmps7
  go_wp2_with fail
  generalize (w.alloc (.cells #[.int .i64 1, .int .i64 5, .int .i64 100, .int .i64 10, .int .i64 20, .int .i64 1, .bool false, .bool false, .int .i64 2, .int .i64 5, .int .i64 900, .int .i64 10, .int .i64 20, .int .i64 1, .bool false, .bool false] 67)).alloc (.cells #[.int .i64 12, .int .i64 5, .int .i64 0, .int .i64 1000, .int .i64 1, .int .i64 1, .bool false, .bool false] 69) = W at *
  refine (apiMost_any _ 2 [j0a, j0b] _ 1 [n0] W hSJ hSN (by decide) (by decide)).mono ?_
  rintro e W2 ⟨n, rfl, hb, hv⟩
  have hn1 : n = 1 := aw_most (by have := hv.1 aw_wrong; rw [aw_choose] at this; exact this)
  subst hn1
  rw [aw_wrong]
  have hSJ2 := (hSJ.below hb).more hb.size
  have hSN2 := (hSN.below hb).more hb.size
  have hB2 := hB.trans (hb.mono hB.size)
  clear hv hSJ hSN hB
  go_wp2_with fail
  refine (apiBest_any _ 2 [j0a, j0b] _ 1 [n0] W2 hSJ2 hSN2 (by decide) (by decide)).mono ?_
  rintro e W3 ⟨A, c, N, rfl, hb3, hS, hv⟩
  have hN1 : N = [0, -1] := (by have := hv.1 aw_wrong; rw [aw_choose] at this; exact this : IsBest [[0], [0]] [1] N).one aw_best
  subst hN1
  rw [aw_wrong]
  have hB3 := hB2.trans (hb3.mono hB2.size)
  obtain ⟨b, off, rfl, _, c0⟩ := hS.at1 (k := 0) rfl (v := .int .i64 0) rfl
  obtain ⟨b', off', hA, _, c1⟩ := hS.at1 (k := 1) rfl (v := .int .i64 (-1)) rfl
  obtain ⟨rfl, rfl⟩ : b = b' ∧ off = off' := by simpa using hA
  rw [Nat.add_zero] at c0
  clear hv hS hA hb hb3
  go_wp2_with fail
  go_ret
  exact ⟨rfl, hB3⟩
end Go.Proofs.Ytkcfalehebacpaa
