/- The steps in the order of their starts: the plain words. -/
import Derived.Test.YtcpnfcnobnjhdaaPlanP
import Derived.Test.YtcpnfcnobnjhdaaStabMAt
namespace Go.Proofs.Ytcpnfcnobnjhdaa
open Go Go.Sort Go.RowKit StabAt
def cmpI (a b : Int) : Int := if a < b then -1 else if b < a then 1 else 0
def cfA (x y : At) : Int := cmpI x.t y.t
theorem ltA {x y : At} : ltF cfA x y = decide (x.t < y.t) := by
  unfold ltF cfA cmpI
  by_cases h : x.t < y.t
  · simp [h]
  · by_cases h2 : y.t < x.t <;> simp [h, h2]
theorem swoA : SWO (ltF cfA) := by
  refine ⟨fun x => by rw [ltA]; simp, fun x y z h1 h2 => ?_, fun x y z h1 h2 => ?_⟩ <;> rw [ltA] at * <;> simp at * <;> omega
def TA (x y : At × Nat) : Prop := x.1.t < y.1.t ∨ (x.1.t = y.1.t ∧ x.2 < y.2)
theorem ta_of {x y : At × Nat} (h : TL (ltF cfA) x y) : TA x y := by
  unfold TL at h
  rw [ltA, ltA] at h
  simp at h
  unfold TA
  omega
def insA (a : At) : List At → List At
  | [] => [a]
  | b :: r => if a.t < b.t then a :: b :: r else b :: insA a r
def sortA (l : List At) : List At := l.foldl (fun acc a => insA a acc) []
def insT (a : At × Nat) : List (At × Nat) → List (At × Nat)
  | [] => [a]
  | b :: r => if a.1.t < b.1.t then a :: b :: r else b :: insT a r
theorem insT_map (a : At × Nat) : ∀ l, (insT a l).map (·.1) = insA a.1 (l.map (·.1))
  | [] => rfl
  | b :: r => by
    unfold insT
    simp only [List.map_cons]
    rw [insA]
    split
    · rfl
    · rw [List.map_cons, insT_map a r]
theorem insT_perm (a : At × Nat) : ∀ l, (insT a l).Perm (a :: l)
  | [] => List.Perm.refl _
  | b :: r => by
    unfold insT
    split
    · exact List.Perm.refl _
    · exact ((insT_perm a r).cons b).trans (List.Perm.swap a b r)
theorem insT_sorted (a : At × Nat) : ∀ l : List (At × Nat), l.Pairwise TA → (∀ b ∈ l, b.2 < a.2) → (insT a l).Pairwise TA
  | [], _, _ => by simp [insT]
  | b :: r, h, ht => by
    unfold insT
    have h1 := List.pairwise_cons.1 h
    split
    · rename_i hlt
      refine List.pairwise_cons.2 ⟨fun c hc => ?_, h⟩
      rcases List.mem_cons.1 hc with rfl | hc
      · exact .inl hlt
      · have := h1.1 c hc
        unfold TA at this ⊢
        omega
    · rename_i hge
      refine List.pairwise_cons.2 ⟨fun c hc => ?_, insT_sorted a r h1.2 fun c hc => ht c (by simp [hc])⟩
      rcases List.mem_cons.1 ((insT_perm a r).subset hc) with rfl | hc
      · have := ht b (by simp)
        unfold TA
        omega
      · exact h1.1 c hc
theorem fold_sorted : ∀ (l : List At) (n : Nat) (acc : List (At × Nat)), acc.Pairwise TA → (∀ b ∈ acc, b.2 < n) →
    ∃ s : List (At × Nat), s.Pairwise TA ∧ s.Perm (acc ++ l.zipIdx n) ∧ s.map (·.1) = l.foldl (fun acc a => insA a acc) (acc.map (·.1))
  | [], n, acc, h, _ => ⟨acc, h, by simp, rfl⟩
  | a :: l, n, acc, h, ht => by
    obtain ⟨s, h1, h2, h3⟩ := fold_sorted l (n + 1) (insT (a, n) acc) (insT_sorted _ _ h ht) (fun b hb => by
      rcases List.mem_cons.1 ((insT_perm (a, n) acc).subset hb) with rfl | hb
      · exact Nat.lt_succ_self _
      · exact Nat.lt_succ_of_lt (ht b hb))
    refine ⟨s, h1, h2.trans ?_, by rw [h3, insT_map]; rfl⟩
    rw [List.zipIdx_cons]
    exact ((insT_perm (a, n) acc).append_right _).trans (List.perm_middle (l₁ := acc)).symm
def tagged (l : List At) : Array (At × Nat) := (l.zipIdx).toArray
theorem tagged_size (l : List At) : (tagged l).size = l.length := by simp [tagged]
theorem tagged_at {l : List At} {i : Nat} {a : At} (h : l[i]? = some a) : (tagged l)[i]! = (a, i) := by
  have hi := (List.getElem?_eq_some_iff.1 h).1
  rw [getElem!_pos _ _ (by simpa [tagged] using hi)]
  simp [tagged, (List.getElem?_eq_some_iff.1 h).2]
/-- the tagged steps in ascending order are one list -/
theorem sorted_eq {l : List At} {r : Array (At × Nat)} (hp : PermIn 0 l.length (tagged l) r) (ht : TS (ltF cfA) 0 l.length r) : r.toList.map (·.1) = sortA l := by
  obtain ⟨s, h1, h2, h3⟩ := fold_sorted l 0 [] List.Pairwise.nil (fun b hb => by cases hb)
  obtain ⟨hs, _, hq⟩ := hp
  rw [tagged_size] at hs
  have e1 : (r.extract 0 l.length).toList = r.toList := by simp [← hs]
  have e2 : ((tagged l).extract 0 l.length).toList = l.zipIdx := by
    simp only [tagged, List.extract_toArray, List.extract_eq_take_drop, List.drop_zero, Nat.sub_zero]
    exact List.take_of_length_le (by simp)
  rw [e1, e2] at hq
  have hr : r.toList.Pairwise TA := by
    rw [List.pairwise_iff_getElem]
    intro i j hi hj hij
    have hj' : j < r.size := by simpa using hj
    have hi' : i < r.size := by simpa using hi
    have := ht i j (Nat.zero_le _) hij (by omega)
    rw [getElem!_pos r i hi', getElem!_pos r j hj'] at this
    simpa using ta_of this
  have : r.toList = s := by
    refine List.Perm.eq_of_pairwise (le := TA) (fun a b _ _ g1 g2 => ?_) hr h1 (hq.trans (by simpa using h2.symm))
    unfold TA at g1 g2
    omega
  rw [this, h3]
  rfl
theorem insA_len (a : At) : ∀ l, (insA a l).length = l.length + 1
  | [] => rfl
  | b :: r => by
    unfold insA
    split
    · rfl
    · simp [insA_len a r]
theorem sortA_len_ : ∀ (l acc : List At), (l.foldl (fun acc a => insA a acc) acc).length = acc.length + l.length
  | [], acc => by simp
  | a :: l, acc => by
    rw [List.foldl_cons, sortA_len_ l, insA_len, List.length_cons]; omega
theorem sortA_len (l : List At) : (sortA l).length = l.length := by unfold sortA; rw [sortA_len_]; simp
end Go.Proofs.Ytcpnfcnobnjhdaa
