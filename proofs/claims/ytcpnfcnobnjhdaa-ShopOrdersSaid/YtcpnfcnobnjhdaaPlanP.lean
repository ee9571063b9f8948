/- Plans: the plain words, and what a plan in memory is. -/
import Derived.Test.YtcpnfcnobnjhdaaLoad
namespace Go.Proofs.Ytcpnfcnobnjhdaa
open Go.RowKit
/-- a slice of slices whose elements are told by 'enc' -/
def Nest {α : Type} (enc : α → List Value) (sz : Nat) (w : World) (B : Nat) (A : Option Addr) (ls : List (List α)) : Prop :=
  ∀ (i : Nat) l, ls[i]? = some l → ∃ b off A' c', A = some ⟨b, off, none⟩ ∧ b < B ∧ w.cell? ⟨b, off + i, none⟩ = some (.slice A' l.length c') ∧ Slc enc sz w B A' l
section
variable {α : Type} {enc : α → List Value} {sz : Nat} {w w' : World} {B B' : Nat} {A : Option Addr} {ls : List (List α)}
theorem Nest.nil_ : Nest enc sz w B A ([] : List (List α)) := fun i l h => by simp at h
theorem Nest.keep (h : Nest enc sz w B A ls) (hk : ∀ p : Addr, p.block < B → w'.cell? p = w.cell? p) : Nest enc sz w' B A ls := fun i l hl => by
  obtain ⟨b, off, A', c', hA, hb, hc, hS⟩ := h i l hl
  exact ⟨b, off, A', c', hA, hb, (hk _ hb).trans hc, hS.keep hk⟩
theorem Nest.below (h : Nest enc sz w B A ls) (hb : Below B w w') : Nest enc sz w' B A ls := h.keep fun _ hp => hb.cell hp
theorem Nest.more (h : Nest enc sz w B A ls) (hB : B ≤ B') : Nest enc sz w B' A ls := fun i l hl => by
  obtain ⟨b, off, A', c', hA, hb, hc, hS⟩ := h i l hl
  exact ⟨b, off, A', c', hA, by omega, hc, hS.more hB⟩
theorem Nest.on (h : Nest enc sz w w.heap.size A ls) (hb : Below w.heap.size w w') : Nest enc sz w' w'.heap.size A ls := (h.below hb).more hb.size
theorem Slc.on {xs : List α} (h : Slc enc sz w w.heap.size A xs) (hb : Below w.heap.size w w') : Slc enc sz w' w'.heap.size A xs := (h.below hb).more hb.size
end
/-- a plan: for each job the starts of its steps -/
abbrev Plan (w : World) (B : Nat) (A : Option Addr) (pl : List (List Int)) : Prop := Nest intEnc 1 w B A pl
/-- a step with its job, its number and its start -/
structure At where
  j : Nat
  k : Nat
  t : Int
  x : Step
instance : Inhabited At := ⟨⟨0, 0, 0, ⟨0, 0, 0, 0⟩⟩⟩
def At.enc (a : At) : List Value := [.int .i64 a.j, .int .i64 a.k, .int .i64 a.t, .int .i64 a.x.m, .int .i64 a.x.mi, .int .i64 a.x.c, .int .i64 a.x.d]
def planAt (pl : List (List Int)) (j k : Nat) : Int := (pl.getD j []).getD k 0
def mkAt (pl : List (List Int)) (e : Ent) : At := ⟨e.j, e.k, planAt pl e.j e.k, e.x⟩
def ats (p : Shop) (pl : List (List Int)) : List At := (ents p).map (mkAt pl)
def At.end_ (a : At) : Int := a.t + a.x.mi
def At.dry (a : At) : Int := a.t + a.x.mi + a.x.d
/-- one start for each step, in range -/
def shapeL : List (List Int) → List (List Step) → Bool
  | l :: r, s :: q => decide (l.length = s.length) && l.all (fun t => inB 0 t 100000000) && shapeL r q
  | _, _ => true
def shapedB (p : Shop) (pl : List (List Int)) : Bool := decide (pl.length = p.jobs.length) && shapeL pl p.jobs
theorem shapeL_step {l : List Int} {s : List Step} {pl : List (List Int)} {js : List (List Step)} {i : Nat} (h1 : pl[i]? = some l) (h2 : js[i]? = some s) :
    shapeL (pl.drop i) (js.drop i) = (decide (l.length = s.length) && l.all (fun t => inB 0 t 100000000) && shapeL (pl.drop (i + 1)) (js.drop (i + 1))) := by
  obtain ⟨g1, g2⟩ := List.getElem?_eq_some_iff.1 h1
  obtain ⟨g3, g4⟩ := List.getElem?_eq_some_iff.1 h2
  rw [List.drop_eq_getElem_cons g1, List.drop_eq_getElem_cons g3, g2, g4]; rfl
theorem shapeL_at : ∀ {pl : List (List Int)} {js : List (List Step)}, shapeL pl js = true → ∀ (i : Nat) l s, pl[i]? = some l → js[i]? = some s → l.length = s.length ∧ ∀ (k : Nat) t, l[k]? = some t → 0 ≤ t ∧ t ≤ 100000000
  | [], _, _, i, l, s, h1, _ => by simp at h1
  | _ :: _, [], _, i, l, s, _, h2 => by simp at h2
  | l' :: r, s' :: q, h, i, l, s, h1, h2 => by
    simp only [shapeL, Bool.and_eq_true, decide_eq_true_eq, List.all_eq_true] at h
    cases i with
    | zero =>
      simp at h1 h2; subst h1 h2
      exact ⟨h.1.1, fun k t hk => inB_iff.1 (h.1.2 t (List.mem_of_getElem? hk))⟩
    | succ i => simp at h1 h2; exact shapeL_at h.2 i l s h1 h2
/-- the facts of a shaped plan -/
structure VPlan (p : Shop) (pl : List (List Int)) : Prop where
  len : pl.length = p.jobs.length
  at_ : ∀ (i : Nat) l s, pl[i]? = some l → p.jobs[i]? = some s → l.length = s.length ∧ ∀ (k : Nat) t, l[k]? = some t → 0 ≤ t ∧ t ≤ 100000000
theorem shaped_facts {p : Shop} {pl : List (List Int)} (h : shapedB p pl = true) : VPlan p pl := by
  simp only [shapedB, Bool.and_eq_true, decide_eq_true_eq] at h
  exact ⟨h.1, shapeL_at h.2⟩
theorem VPlan.row {p : Shop} {pl : List (List Int)} (h : VPlan p pl) {j : Nat} {s : List Step} (hj : p.jobs[j]? = some s) : ∃ l, pl[j]? = some l ∧ l.length = s.length := by
  have hl : j < pl.length := by rw [h.len]; exact (List.getElem?_eq_some_iff.1 hj).1
  exact ⟨pl[j], List.getElem?_eq_getElem hl, (h.at_ j _ s (List.getElem?_eq_getElem hl) hj).1⟩
theorem planAt_eq {pl : List (List Int)} {j k : Nat} {l : List Int} {t : Int} (h1 : pl[j]? = some l) (h2 : l[k]? = some t) : planAt pl j k = t := by
  unfold planAt; simp [List.getD_eq_getElem?_getD, h1, h2]
/-- a step of a shaped plan has its start -/
theorem VPlan.start {p : Shop} {pl : List (List Int)} (h : VPlan p pl) {j k : Nat} {s : List Step} {x : Step} (hj : p.jobs[j]? = some s) (hk : s[k]? = some x) : ∃ l t, pl[j]? = some l ∧ l[k]? = some t ∧ planAt pl j k = t ∧ 0 ≤ t ∧ t ≤ 100000000 := by
  obtain ⟨l, hl, hlen⟩ := h.row hj
  have hk' : k < l.length := by rw [hlen]; exact (List.getElem?_eq_some_iff.1 hk).1
  have ht : l[k]? = some l[k] := List.getElem?_eq_getElem hk'
  have hb := (h.at_ j l s hl hj).2 k _ ht
  exact ⟨l, l[k], hl, ht, planAt_eq hl ht, hb⟩
theorem ats_len (p : Shop) (pl : List (List Int)) : (ats p pl).length = (ents p).length := by simp [ats]
theorem ats_at {p : Shop} {pl : List (List Int)} {i : Nat} {a : At} (h : (ats p pl)[i]? = some a) : ∃ e, (ents p)[i]? = some e ∧ mkAt pl e = a := by
  simp [ats] at h; exact h
/-- what is known of an element of the list -/
structure AtOk (p : Shop) (pl : List (List Int)) (a : At) : Prop where
  job : ∃ s, p.jobs[a.j]? = some s ∧ s[a.k]? = some a.x
  start : a.t = planAt pl a.j a.k
  m0 : 0 ≤ a.x.m
  m1 : a.x.m < p.mach
  mi0 : 1 ≤ a.x.mi
  mi1 : a.x.mi ≤ p.cl - p.op
  c0 : 0 ≤ a.x.c
  c1 : a.x.c ≤ 9
  d0 : 0 ≤ a.x.d
  d1 : a.x.d ≤ 10000
  t0 : 0 ≤ a.t
  t1 : a.t ≤ 100000000
theorem ats_ok {p : Shop} (hv : VShop p) {pl : List (List Int)} (hp : VPlan p pl) {a : At} (h : a ∈ ats p pl) : AtOk p pl a := by
  obtain ⟨e, he, rfl⟩ := List.mem_map.1 h
  obtain ⟨s, h1, h2⟩ := ents_mem he
  obtain ⟨m0, m1, mi0, mi1, c0, c1, d0, d1⟩ := ents_step hv he
  obtain ⟨l, t, g1, g2, g3, g4, g5⟩ := hp.start h1 h2
  exact ⟨⟨s, h1, h2⟩, rfl, m0, m1, mi0, mi1, c0, c1, d0, d1, by show 0 ≤ planAt pl e.j e.k; omega, by show planAt pl e.j e.k ≤ _; omega⟩

/-! the judge -/
noncomputable def setupOf (p : Shop) (m : Int) : Int := p.setup.getD m.toNat 0
noncomputable def roomF (p : Shop) (b : At) (c : Int) : Int := if b.x.c = c then b.end_ else b.end_ + setupOf p b.x.m
noncomputable def togB (p : Shop) (a b : At) : Bool := !decide (a.x.m = b.x.m) || decide (roomF p a b.x.c ≤ b.t) || decide (roomF p b a.x.c ≤ a.t)
def shiftBad (p : Shop) : List At → Option At
  | [] => none
  | a :: r => if shiftB p a.t a.x.mi then shiftBad p r else some a
def earlyBad : Int → List At → Option At
  | _, [] => none
  | dr, a :: r => if 0 < a.k ∧ a.t < dr then some a else earlyBad a.dry r
noncomputable def clashBad (p : Shop) : List At → Option At
  | [] => none
  | a :: r => if r.all (togB p a) then clashBad p r else some a
noncomputable def judgeL (p : Shop) (l : List At) : Nat × Nat × Int :=
  match shiftBad p l with
  | some a => (a.j, a.k, 51)
  | none => match earlyBad 0 l with
    | some a => (a.j, a.k, 52)
    | none => match clashBad p l with
      | some a => (a.j, a.k, 53)
      | none => (0, 0, 0)
noncomputable def judgeF (p : Shop) (pl : List (List Int)) : Nat × Nat × Int := if shapedB p pl then judgeL p (ats p pl) else (0, 0, 2)
def V3 (x : Nat × Nat × Int) : Value := .tuple #[.int .i64 x.1, .int .i64 x.2.1, .int .i64 x.2.2]
theorem shiftBad_drop {p : Shop} {l : List At} {k : Nat} {a : At} (h : l[k]? = some a) : shiftBad p (l.drop k) = if shiftB p a.t a.x.mi then shiftBad p (l.drop (k + 1)) else some a := by
  obtain ⟨hl, hf⟩ := List.getElem?_eq_some_iff.1 h
  rw [List.drop_eq_getElem_cons hl, hf]; rfl
theorem earlyBad_drop {dr : Int} {l : List At} {k : Nat} {a : At} (h : l[k]? = some a) : earlyBad dr (l.drop k) = if 0 < a.k ∧ a.t < dr then some a else earlyBad a.dry (l.drop (k + 1)) := by
  obtain ⟨hl, hf⟩ := List.getElem?_eq_some_iff.1 h
  rw [List.drop_eq_getElem_cons hl, hf]; rfl
theorem clashBad_drop {p : Shop} {l : List At} {k : Nat} {a : At} (h : l[k]? = some a) : clashBad p (l.drop k) = if (l.drop (k + 1)).all (togB p a) then clashBad p (l.drop (k + 1)) else some a := by
  obtain ⟨hl, hf⟩ := List.getElem?_eq_some_iff.1 h
  rw [List.drop_eq_getElem_cons hl, hf]; rfl
/-- a step that is not its job's first has the one before it in front of it in the list -/
theorem stepsFrom_get {j : Nat} : ∀ {l : List Step} {k i : Nat} {e : Ent}, (stepsFrom j k l)[i]? = some e → e.j = j ∧ e.k = k + i
  | [], k, i, e, h => by simp [stepsFrom] at h
  | x :: r, k, 0, e, h => by simp [stepsFrom] at h; subst h; exact ⟨rfl, rfl⟩
  | x :: r, k, i + 1, e, h => by
    simp [stepsFrom] at h
    obtain ⟨h1, h2⟩ := stepsFrom_get h
    exact ⟨h1, by omega⟩
theorem entsFrom_prev : ∀ {js : List (List Step)} {j i : Nat} {e : Ent}, (entsFrom j js)[i]? = some e → 0 < e.k → ∃ i', i = i' + 1 ∧ ∃ e', (entsFrom j js)[i']? = some e' ∧ e'.j = e.j ∧ e'.k + 1 = e.k
  | [], j, i, e, h, _ => by simp [entsFrom] at h
  | l :: r, j, i, e, h, hk => by
    simp only [entsFrom] at h ⊢
    by_cases hi : i < (stepsFrom j 0 l).length
    · rw [List.getElem?_append_left hi] at h
      obtain ⟨h1, h2⟩ := stepsFrom_get h
      obtain ⟨i', rfl⟩ : ∃ i', i = i' + 1 := ⟨i - 1, by omega⟩
      have hi' : i' < (stepsFrom j 0 l).length := by omega
      refine ⟨i', rfl, (stepsFrom j 0 l)[i'], by rw [List.getElem?_append_left hi']; exact List.getElem?_eq_getElem hi', ?_⟩
      obtain ⟨g1, g2⟩ := stepsFrom_get (List.getElem?_eq_getElem hi')
      exact ⟨by omega, by omega⟩
    · rw [List.getElem?_append_right (by omega)] at h
      obtain ⟨i', h1, e', h2, h3⟩ := entsFrom_prev h hk
      refine ⟨i' + (stepsFrom j 0 l).length, by omega, e', ?_, h3⟩
      rw [List.getElem?_append_right (by omega)]
      rw [show i' + (stepsFrom j 0 l).length - (stepsFrom j 0 l).length = i' by omega]
      exact h2
theorem ats_prev {p : Shop} {pl : List (List Int)} {i : Nat} {a : At} (h : (ats p pl)[i]? = some a) (hk : 0 < a.k) : ∃ i', i = i' + 1 ∧ ∃ b, (ats p pl)[i']? = some b ∧ b.j = a.j ∧ b.k + 1 = a.k := by
  obtain ⟨e, he, rfl⟩ := ats_at h
  obtain ⟨i', h1, e', h2, h3, h4⟩ := entsFrom_prev he hk
  refine ⟨i', h1, mkAt pl e', ?_, h3, h4⟩
  unfold ats; rw [List.getElem?_map]
  show Option.map _ ((ents p)[i']?) = _
  unfold ents; rw [h2]; rfl
end Go.Proofs.Ytcpnfcnobnjhdaa
