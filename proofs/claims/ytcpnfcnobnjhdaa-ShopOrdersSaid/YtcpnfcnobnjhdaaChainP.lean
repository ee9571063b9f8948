/- Chains and loads: the plain words. -/
import Derived.Test.YtcpnfcnobnjhdaaTimesP
namespace Go.Proofs.Ytcpnfcnobnjhdaa
/-- a step of a job, with its job and its number -/
structure Ent where
  j : Nat
  k : Nat
  x : Step
def stepsFrom (j : Nat) : Nat → List Step → List Ent
  | _, [] => []
  | k, x :: r => ⟨j, k, x⟩ :: stepsFrom j (k + 1) r
def entsFrom : Nat → List (List Step) → List Ent
  | _, [] => []
  | j, l :: r => stepsFrom j 0 l ++ entsFrom (j + 1) r
def ents (p : Shop) : List Ent := entsFrom 0 p.jobs
theorem stepsFrom_drop {j k : Nat} {l : List Step} {x : Step} (h : l[k]? = some x) : stepsFrom j k (l.drop k) = ⟨j, k, x⟩ :: stepsFrom j (k + 1) (l.drop (k + 1)) := by
  obtain ⟨hl, hf⟩ := List.getElem?_eq_some_iff.1 h
  rw [List.drop_eq_getElem_cons hl, hf]; rfl
theorem entsFrom_drop {j : Nat} {js : List (List Step)} {l : List Step} (h : js[j]? = some l) : entsFrom j (js.drop j) = stepsFrom j 0 l ++ entsFrom (j + 1) (js.drop (j + 1)) := by
  obtain ⟨hl, hf⟩ := List.getElem?_eq_some_iff.1 h
  rw [List.drop_eq_getElem_cons hl, hf]; rfl
theorem stepsFrom_mem {j : Nat} : ∀ {l : List Step} {k : Nat} {e : Ent}, e ∈ stepsFrom j k l → e.j = j ∧ ∃ i, e.k = k + i ∧ l[i]? = some e.x
  | [], k, e, h => by simp [stepsFrom] at h
  | x :: r, k, e, h => by
    simp only [stepsFrom, List.mem_cons] at h
    rcases h with rfl | h
    · exact ⟨rfl, 0, rfl, rfl⟩
    · obtain ⟨h1, i, h2, h3⟩ := stepsFrom_mem h
      exact ⟨h1, i + 1, by omega, by simpa using h3⟩
theorem entsFrom_mem : ∀ {js : List (List Step)} {j : Nat} {e : Ent}, e ∈ entsFrom j js → ∃ i l, e.j = j + i ∧ js[i]? = some l ∧ l[e.k]? = some e.x
  | [], j, e, h => by simp [entsFrom] at h
  | l :: r, j, e, h => by
    simp only [entsFrom, List.mem_append] at h
    rcases h with h | h
    · obtain ⟨h1, i, h2, h3⟩ := stepsFrom_mem h
      exact ⟨0, l, by omega, rfl, by rw [h2]; simpa using h3⟩
    · obtain ⟨i, l', h1, h2, h3⟩ := entsFrom_mem h
      exact ⟨i + 1, l', by omega, by simpa using h2, h3⟩
/-- where an entry comes from -/
theorem ents_mem {p : Shop} {e : Ent} (h : e ∈ ents p) : ∃ l, p.jobs[e.j]? = some l ∧ l[e.k]? = some e.x := by
  obtain ⟨i, l, h1, h2, h3⟩ := entsFrom_mem h
  rw [Nat.zero_add] at h1
  exact ⟨l, by rw [h1]; exact h2, h3⟩
/-- when a job goes on, and its end -/
noncomputable def chainSt (p : Shop) : List Step → Int → Int → Int
  | [], _, e => e
  | x :: r, t, _ => chainSt p r (nextF p t x.mi + x.mi + x.d) (nextF p t x.mi + x.mi)
noncomputable def chainF (p : Shop) (l : List Step) : Int := chainSt p l 0 0
theorem chainSt_drop {p : Shop} {l : List Step} {k : Nat} {x : Step} {t e : Int} (h : l[k]? = some x) : chainSt p (l.drop k) t e = chainSt p (l.drop (k + 1)) (nextF p t x.mi + x.mi + x.d) (nextF p t x.mi + x.mi) := by
  obtain ⟨hl, hf⟩ := List.getElem?_eq_some_iff.1 h
  rw [List.drop_eq_getElem_cons hl, hf]; rfl
/-- the minutes of a machine -/
def sumM (m : Int) : List Ent → Int
  | [] => 0
  | e :: r => (if e.x.m = m then e.x.mi else 0) + sumM m r
theorem sumM_append (m : Int) : ∀ a b : List Ent, sumM m (a ++ b) = sumM m a + sumM m b
  | [], b => by simp [sumM]
  | e :: r, b => by simp [sumM, sumM_append m r b, Int.add_assoc]
noncomputable def loadF (p : Shop) (m : Int) : Int := afterF p 0 (sumM m (ents p))
end Go.Proofs.Ytcpnfcnobnjhdaa
