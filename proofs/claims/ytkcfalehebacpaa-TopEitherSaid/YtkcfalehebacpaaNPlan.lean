/- Plan: what it returns; the plain law of the best plan. -/
import Derived.Test.YtkcfalehebacpaaNRightApi
namespace Go.Proofs.Ytkcfalehebacpaa
open Go Go.RowKit
theorem contains_any (A : Option Addr) (c : Nat) (l : List Int) (v : Int) (w : World) (hl : l.length ≤ 100000) (hS : Slc intEnc 1 w w.heap.size A l) :
    Calls Try.prog 29 #[.slice A l.length c, .int .i64 v] w fun e w' => e = .returned (.bool (decide (v ∈ l))) ∧ w = w' := by
  go_enter Try.func29, Try.ntmps29
  go_wp2_with fail
  refine (index_any A c _ l v w hl hS).mono ?_
  rintro e W ⟨rfl, hp⟩
  rcases hp with ⟨rfl, hm⟩ | ⟨i, rfl, hi, _⟩
  · have HM := hide hm
    clear hm
    go_wp2_with fail
    go_ret
    exact ⟨ret_bool (by rw [decide_eq_false HM.out]), rfl⟩
  · have HM := hide (List.mem_of_getElem? hi)
    clear hi
    go_wp2_with fail
    go_ret
    exact ⟨ret_bool (by rw [decide_eq_true HM.out]), rfl⟩
theorem choose_len (js : List Job) (ns : List Nit) : (chooseL ns js).length = js.length := by simp [chooseL]
theorem cap_len (ns : List Nit) : (capOf ns).length = ns.length := by simp [capOf]
theorem pl_formed {js : List Job} {ns : List Nit} {N : List Int} (h : Pl (chooseL ns js) (capOf ns) N) : formedB js ns N = true := by
  unfold formedB
  have hl := h.len
  rw [choose_len] at hl
  rw [decide_eq_true hl, Bool.true_and, Bool.not_eq_true']
  refine List.any_eq_false.2 fun v hv => ?_
  obtain ⟨i, hi⟩ := List.getElem?_of_mem hv
  have : inPl ns v = true := by
    unfold inPl
    refine inB_iff.2 ?_
    rcases h.ok i v hi with h1 | ⟨k, h1, h2, _⟩
    · omega
    · have := cap_len ns
      omega
  rw [this]; simp
theorem pl_errs {js : List Job} {ns : List Nit} {N : List Int} (h0 : wrongF js ns = 0) (h : Pl (chooseL ns js) (capOf ns) N) : rErr js ns N = 0 ∧ rOk js ns N = true ∧ pErr js ns N = 0 ∧ dVal js ns N = doneN N := by
  have h1 : rErr js ns N = 0 := by unfold rErr; rw [if_pos h0, pl_formed h]; rfl
  have h2 : rOk js ns N = true := by unfold rOk; rw [if_pos h1]; exact rightB_iff.2 h
  have h3 : pErr js ns N = 0 := by unfold pErr; rw [if_pos h1, h2]; rfl
  exact ⟨h1, h2, h3, by unfold dVal; rw [if_pos h3]⟩
theorem done_set {N : List Int} {i k : Nat} (h : i < N.length) : doneN N ≤ doneN (N.set i (k : Int)) := by
  unfold doneN
  rw [List.countP_set h]
  have : decide ((0 : Int) ≤ (k : Int)) = true := decide_eq_true (by omega)
  rw [this]
  simp only [if_true]
  split <;> omega
theorem best_less {js : List Job} {ns : List Nit} {N : List Int} (h : IsBest (chooseL ns js) (capOf ns) N) {i : Nat} {v : Int} (hv : N[i]? = some v) {k : Nat} (hk : v = -1 ∨ (k : Int) < v) : rOk js ns (N.set i (k : Int)) = false := by
  unfold rOk
  split
  · refine rightB_no fun hp => ?_
    have hi := (List.getElem?_eq_some_iff.1 hv).1
    have h1 := h.least i v hv k hk _ hp (List.getElem?_set_self hi) (fun i' hi' => List.getElem?_set_ne (by omega))
    have h2 := done_set (k := k) hi
    omega
  · rfl
theorem pl_short {C : List (List Int)} {cap N : List Int} (h : Pl C cap N) : (doneN N < C.length ↔ -1 ∈ N) ∧ doneN N ≤ C.length := by
  have h1 : doneN N ≤ N.length := List.countP_le_length
  have h2 := h.len
  refine ⟨⟨fun hl => ?_, fun hm => ?_⟩, by omega⟩
  · rcases Classical.em (-1 ∈ N) with hm | hm
    · exact hm
    · exfalso
      have : doneN N = N.length := by
        unfold doneN
        refine List.countP_eq_length.2 fun v hv => ?_
        obtain ⟨i, hi⟩ := List.getElem?_of_mem hv
        rcases h.ok i v hi with h3 | ⟨k, h3, _, _⟩
        · subst h3; exact absurd hv hm
        · exact decide_eq_true (by omega)
      omega
  · rcases Nat.lt_or_ge (doneN N) N.length with h3 | h3
    · omega
    · exfalso
      have h4 : doneN N = N.length := by omega
      unfold doneN at h4
      have := of_decide_eq_true (List.countP_eq_length.1 h4 (-1) hm)
      omega
/-- what Plan returns -/
def PlanV (js : List Job) (ns : List Nit) (L : List Int) (E : Int) : Prop := (wrongF js ns ≠ 0 → L = [] ∧ E = wrongF js ns) ∧ (wrongF js ns = 0 → ∃ N, IsBest (chooseL ns js) (capOf ns) N ∧ ((-1 ∈ N ∧ L = [] ∧ E = 24) ∨ (-1 ∉ N ∧ L = N ∧ E = 0)))
def ApiPlanPost (js : List Job) (ns : List Nit) (w : World) (e : Ending) (w' : World) : Prop :=
  ∃ A c L E, e = .returned (.tuple #[.slice A L.length c, .int .i64 E]) ∧ Below w.heap.size w w' ∧ Slc intEnc 1 w' w'.heap.size A L ∧ PlanV js ns L E
set_option maxRecDepth 100000 in
set_option maxHeartbeats 1000000 in
theorem apiPlan_any (AJ : Option Addr) (cJ : Nat) (js : List Job) (AN : Option Addr) (cN : Nat) (ns : List Nit) (w : World) (hJ : Slc Job.enc 8 w w.heap.size AJ js) (hN : Slc Nit.enc 8 w w.heap.size AN ns) (hl1 : js.length ≤ 1000) (hl2 : ns.length ≤ 1000) :
    Calls Try.prog 9 #[.slice AJ js.length cJ, .slice AN ns.length cN] w (ApiPlanPost js ns w) := by
  go_enter Try.func9, Try.ntmps9
  go_wp2_with fail
  refine (checked_any AJ cJ js AN cN ns w hJ hN hl1 hl2).mono ?_
  rintro e W ⟨rfl, hB⟩
  rcases wrong_cases js ns with h0 | h0 | h0
  · have HV : Hid (PlanV js ns [] (wrongF js ns)) := ⟨fun _ => ⟨rfl, rfl⟩, fun h => by omega⟩
    rw [h0] at HV
    rw [h0]
    clear h0
    go_wp2_with fail
    go_ret2
    exact ⟨none, 0, [], _, rfl, hB, Slc.nil_, HV.out⟩
  · have HV : Hid (PlanV js ns [] (wrongF js ns)) := ⟨fun _ => ⟨rfl, rfl⟩, fun h => by omega⟩
    rw [h0] at HV
    rw [h0]
    clear h0
    go_wp2_with fail
    go_ret2
    exact ⟨none, 0, [], _, rfl, hB, Slc.nil_, HV.out⟩
  · obtain ⟨_, f1, f2, f3⟩ := wrong_facts h0
    have HW := hide h0
    rw [h0]
    clear h0
    go_wp2_with fail
    refine (best_any AJ cJ js AN cN ns W ((hJ.below hB).more hB.size) ((hN.below hB).more hB.size) (by omega) (by omega) (cap_ok f3)).mono ?_
    rintro e W2 ⟨A, c, N, rfl, hB2, hS, hV⟩
    have hNl : N.length ≤ 1000 := by rw [hV.pl.len, choose_len]; exact hl1
    have HV := hide hV
    have hBB : Below w.heap.size w W2 := hB.trans (hB2.mono hB.size)
    clear hV
    go_wp2_with fail
    refine (contains_any A c N (-1) W2 (by omega) hS).mono ?_
    rintro e W3 ⟨rfl, rfl⟩
    by_cases hm : -1 ∈ N
    · have HP : Hid (PlanV js ns [] 24) := ⟨fun h => absurd HW.out h, fun _ => ⟨N, HV.out, .inl ⟨hm, rfl, rfl⟩⟩⟩
      rw [decide_eq_true hm]
      clear hm
      go_wp2_with fail
      go_ret2
      exact ⟨none, 0, [], 24, rfl, hBB, Slc.nil_, HP.out⟩
    · have HP : Hid (PlanV js ns N 0) := ⟨fun h => absurd HW.out h, fun _ => ⟨N, HV.out, .inr ⟨hm, rfl, rfl⟩⟩⟩
      rw [decide_eq_false hm]
      clear hm
      go_wp2_with fail
      go_ret2
      exact ⟨A, c, N, 0, rfl, hBB, hS, HP.out⟩
end Go.Proofs.Ytkcfalehebacpaa
