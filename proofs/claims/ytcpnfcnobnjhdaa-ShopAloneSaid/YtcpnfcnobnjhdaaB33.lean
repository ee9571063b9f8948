/- Parts of the proofs of this seat: RefPullM. Each part says what it proves; no condition beyond those stated there. -/
import Derived.Test.YtcpnfcnobnjhdaaB31
import Derived.Test.YtcpnfcnobnjhdaaB32

/- The reference's Pull: its memory; when a job is ready. -/
namespace Go.Proofs.Ytcpnfcnobnjhdaa
open Go Go.RowKit
theorem et_rows : ElemT Try.prog 44 22 1 := elemT_mk Try.underlying44 (z := .slice none 0 0) (bytes := 24) (by kernel_rfl) rfl (by omega) (by omega)
def rowE (q : Nat × List Int) : List Value := [rowV q.1 q.2]
theorem rowE_len (q : Nat × List Int) : (rowE q).length = 1 := rfl
/-- rows of fixed length, each a block of its own, in a slice -/
structure OutAt (B : Nat) (w : World) (A : Option Addr) (brs : List Nat) (O : List (List Int)) : Prop where
  len : brs.length = O.length
  head : Slc rowE 1 w w.heap.size A (brs.zip O)
  rows : ∀ (i b : Nat) l, brs[i]? = some b → O[i]? = some l → Blk w b 3 (ints l)
  nd : brs.Nodup
  base : ∀ b ∈ brs, B ≤ b
section
variable {B : Nat} {w w' : World} {A : Option Addr} {brs : List Nat} {O : List (List Int)}
theorem OutAt.below (h : OutAt B w A brs O) (hb : Below w.heap.size w w') : OutAt B w' A brs O :=
  ⟨h.len, h.head.on hb, fun i b l h1 h2 => (h.rows i b l h1 h2).below hb (h.rows i b l h1 h2).lt, h.nd, h.base⟩
theorem OutAt.row (h : OutAt B w A brs O) {j : Nat} {l : List Int} (hl : O[j]? = some l) : ∃ br bo offo, brs[j]? = some br ∧ A = some ⟨bo, offo, none⟩ ∧ w.cell? ⟨bo, offo + j, none⟩ = some (.slice (some ⟨br, 0, none⟩) l.length l.length) ∧ Blk w br 3 (ints l) ∧ B ≤ br ∧ bo < w.heap.size := by
  have hj : j < brs.length := by rw [h.len]; exact (List.getElem?_eq_some_iff.1 hl).1
  have hb : brs[j]? = some brs[j] := List.getElem?_eq_getElem hj
  have hz : (brs.zip O)[j]? = some (brs[j], l) := by rw [List.getElem?_zip_eq_some]; exact ⟨hb, hl⟩
  obtain ⟨bo, offo, h1, hlt, h3⟩ := h.head.at1 hz (v := rowV brs[j] l) rfl
  exact ⟨brs[j], bo, offo, hb, h1, h3, h.rows j _ l hb hl, h.base _ (by simp), hlt⟩
theorem OutAt.plan_ (h : OutAt B w A brs O) : Plan w w.heap.size A O := fun j l hl => by
  obtain ⟨br, bo, offo, h1, rfl, h3, h4, _, hlt⟩ := h.row hl
  refine ⟨bo, offo, some ⟨br, 0, none⟩, l.length, rfl, hlt, h3, fun k x hx => ⟨br, 0, rfl, h4.lt, fun q v hv => ?_⟩⟩
  cases q with
  | zero =>
    simp [intEnc] at hv; subst hv
    simpa using h4.cell_ k (ints_get hx)
  | succ q => simp [intEnc] at hv
theorem OutAt.lt (h : OutAt B w A brs O) {b : Nat} (hb : b ∈ brs) : b < w.heap.size := by
  obtain ⟨i, hi⟩ := List.getElem?_of_mem hb
  have hil : i < O.length := by rw [← h.len]; exact (List.getElem?_eq_some_iff.1 hi).1
  exact (h.rows i b _ hi (List.getElem?_eq_getElem hil)).lt
theorem zip_modify {brs : List Nat} {O : List (List Int)} {j : Nat} {f : List Int → List Int} : brs.zip (O.modify j f) = (brs.zip O).modify j fun q => (q.1, f q.2) := by
  apply List.ext_getElem?
  intro i
  rw [modify_get]
  by_cases hij : j = i
  · subst hij
    rw [if_pos rfl]
    cases h1 : brs[j]? with
    | none =>
      have : ∀ P : List (List Int), (brs.zip P)[j]? = none := fun P => List.getElem?_eq_none (by have := List.getElem?_eq_none_iff.1 h1; rw [List.length_zip]; omega)
      rw [this, this]; rfl
    | some b =>
      cases h2 : O[j]? with
      | none =>
        have h3 : (O.modify j f)[j]? = none := by rw [modify_get, if_pos rfl, h2]; rfl
        rw [List.getElem?_eq_none (by have := List.getElem?_eq_none_iff.1 h3; rw [List.length_zip]; omega), List.getElem?_eq_none (by have := List.getElem?_eq_none_iff.1 h2; rw [List.length_zip]; omega)]; rfl
      | some l =>
        have h3 : (O.modify j f)[j]? = some (f l) := by rw [modify_get, if_pos rfl, h2]; rfl
        have z1 : (brs.zip (O.modify j f))[j]? = some (b, f l) := List.getElem?_zip_eq_some.2 ⟨h1, h3⟩
        have z2 : (brs.zip O)[j]? = some (b, l) := List.getElem?_zip_eq_some.2 ⟨h1, h2⟩
        rw [z1, z2]; rfl
  · rw [if_neg hij]
    cases h : (brs.zip O)[i]? with
    | none =>
      have h1 := List.getElem?_eq_none_iff.1 h
      rw [List.length_zip] at h1
      rw [List.getElem?_eq_none (by rw [List.length_zip, List.length_modify]; omega)]
    | some q =>
      obtain ⟨h1, h2⟩ := List.getElem?_zip_eq_some.1 h
      have h3 : (O.modify j f)[i]? = some q.2 := by rw [modify_get, if_neg hij, h2]
      exact List.getElem?_zip_eq_some.2 ⟨h1, h3⟩
/-- a start is stored -/
theorem OutAt.set_ (h : OutAt B w A brs O) {j k br : Nat} {l : List Int} {t : Int} (hbr : brs[j]? = some br) (hl : O[j]? = some l) (hR : Blk w' br 3 ((ints l).setIfInBounds k (.int .i64 t))) (hc : Chg (fun k => k = br) w w') :
    OutAt B w' A brs (O.modify j fun l => l.set k t) := by
  rw [ints_set] at hR
  refine ⟨by simpa using h.len, ?_, fun i b l' h1 h2 => ?_, h.nd, h.base⟩
  · intro i q hq
    rw [zip_modify, modify_get] at hq
    have hold : ∃ q0, (brs.zip O)[i]? = some q0 ∧ rowE q0 = rowE q := by
      split at hq
      · cases h0 : (brs.zip O)[i]? with
        | none => rw [h0] at hq; cases hq
        | some q0 =>
          rw [h0] at hq
          simp only [Option.map_some, Option.some.injEq] at hq
          refine ⟨q0, rfl, ?_⟩
          rw [← hq]
          simp [rowE, rowV]
      · exact ⟨q, hq, rfl⟩
    obtain ⟨q0, h0, he⟩ := hold
    rw [← he]
    obtain ⟨bo, offo, e1, e2, e3⟩ := h.head i q0 h0
    refine ⟨bo, offo, e1, Nat.lt_of_lt_of_le e2 hc.size, fun r v hv => ?_⟩
    have hcell := e3 r v hv
    have hne : bo ≠ br := by
      rintro rfl
      have hv0 : v = rowV q0.1 q0.2 := by
        cases r with
        | zero => simpa [rowE] using hv.symm
        | succ r => simp [rowE] at hv
      rw [(h.rows j bo l hbr hl).cell, hv0] at hcell
      simp only [ints, List.getElem?_toArray, List.getElem?_map] at hcell
      cases hx : l[offo + i * 1 + r]? with
      | none => rw [hx] at hcell; cases hcell
      | some y => rw [hx] at hcell; simp [intV, rowV] at hcell
    exact hc.cell1 hcell hne
  · rw [modify_get] at h2
    by_cases hij : j = i
    · subst hij
      rw [hbr] at h1
      injection h1 with h1
      subst h1
      rw [if_pos rfl, hl] at h2
      simp only [Option.map_some, Option.some.injEq] at h2
      subst h2
      exact hR
    · rw [if_neg hij] at h2
      refine (h.rows i b l' h1 h2).chg1 hc fun he => ?_
      subst he
      have h4 := List.getElem?_eq_some_iff.1 hbr
      exact hij ((List.getElem?_inj h4.1 h.nd).1 (hbr.trans h1.symm))
end
theorem Slc.chgA {α : Type} {enc : α → List Value} {sz : Nat} {w w' : World} {B : Nat} {A : Option Addr} {xs : List α} {g : Nat} (h : Slc enc sz w B A xs) (hc : Chg (fun k => k = g) w w') (hA : ∀ b off, A = some ⟨b, off, none⟩ → b ≠ g) : Slc enc sz w' B A xs := fun i x hx => by
  obtain ⟨b, off, h1, h2, h3⟩ := h i x hx
  exact ⟨b, off, h1, h2, fun j v hv => hc.cell1 (h3 j v hv) (hA b off h1)⟩
/-- the rows that have been made so far -/
structure OutL (B : Nat) (w : World) (v : Value) (brs : List Nat) (O : List (List Int)) : Prop where
  own : Own w B 22 1 rowE v (brs.zip O)
  rows : ∀ (i b : Nat) l, brs[i]? = some b → O[i]? = some l → Blk w b 3 (ints l)
  len : brs.length = O.length
  nd : brs.Nodup
  base : ∀ b ∈ brs, B ≤ b
  ne : ∀ b ∈ brs, v.ownBlock ≠ some b
theorem OutL.start (B : Nat) (w : World) : OutL B w (.slice none 0 0) [] [] := ⟨Own.nil_, fun i b l h => by simp at h, rfl, List.nodup_nil, fun b h => (by cases h), fun b h => (by cases h)⟩
theorem OutL.below {B : Nat} {w w' : World} {v : Value} {brs : List Nat} {O : List (List Int)} (h : OutL B w v brs O) (hb : Below w.heap.size w w') : OutL B w' v brs O :=
  ⟨h.own.below hb, fun i b l h1 h2 => (h.rows i b l h1 h2).below hb (h.rows i b l h1 h2).lt, h.len, h.nd, h.base, h.ne⟩
theorem OutL.lt {B : Nat} {w : World} {v : Value} {brs : List Nat} {O : List (List Int)} (h : OutL B w v brs O) {b : Nat} (hb : b ∈ brs) : b < w.heap.size := by
  obtain ⟨i, hi⟩ := List.getElem?_of_mem hb
  have hil : i < O.length := by rw [← h.len]; exact (List.getElem?_eq_some_iff.1 hi).1
  exact (h.rows i b _ hi (List.getElem?_eq_getElem hil)).lt
theorem OutL.app {B n : Nat} {w0 w w' : World} {v : Value} {brs : List Nat} {O : List (List Int)} (h : OutL B w0 v brs O) (hB : B ≤ w0.heap.size) (hb : Below w0.heap.size w0 w) (hrow : Blk w w0.heap.size 3 (ints (List.replicate n 0)))
    {g cap : Nat} (ho : Own w' B 22 1 rowE (.slice (some ⟨g, 0, none⟩) ((brs.zip O).length + 1) cap) (brs.zip O ++ [(w0.heap.size, List.replicate n 0)])) (hg : w.grownBy w' v.ownBlock) (hv : v.ownBlock = some g ∨ g = w.heap.size) :
    OutL B w' (.slice (some ⟨g, 0, none⟩) ((brs.zip O).length + 1) cap) (brs ++ [w0.heap.size]) (O ++ [List.replicate n 0]) := by
  have hvl : ∀ k, v.ownBlock = some k → k < w0.heap.size := fun k hk => (World.ownsRow.lt h.own k hk).2
  refine ⟨?_, fun i b l h1 h2 => ?_, by simp [h.len], ?_, fun b hb' => ?_, fun b hb' he => ?_⟩
  · rw [List.zip_append h.len]; exact ho
  · by_cases hi : i < brs.length
    · rw [List.getElem?_append_left hi] at h1
      rw [List.getElem?_append_left (by rw [← h.len]; exact hi)] at h2
      have h3 := h.rows i b l h1 h2
      exact (h3.below hb h3.lt).grownv hg fun k hk he => h.ne b (List.mem_of_getElem? h1) (by rw [hk, he])
    · have hil := (List.getElem?_eq_some_iff.1 h1).1
      simp at hil
      obtain rfl : i = brs.length := by omega
      simp at h1
      subst h1
      rw [h.len] at h2
      simp at h2
      subst h2
      exact hrow.grownv hg fun k hk he => by have := hvl k hk; omega
  · rw [List.nodup_append]
    refine ⟨h.nd, by simp, fun a ha b hb' he => ?_⟩
    simp at hb'
    have := h.lt ha
    omega
  · rcases List.mem_append.1 hb' with hb' | hb'
    · exact h.base b hb'
    · simp at hb'; omega
  · have he' : g = b := by
      simp only [Value.ownBlock] at he
      injection he
    rcases List.mem_append.1 hb' with hb' | hb'
    · rcases hv with hv | hv
      · exact h.ne b hb' (by rw [hv, he'])
      · have := h.lt hb'; have := hb.size; omega
    · simp at hb'
      rcases hv with hv | hv
      · have := hvl g hv; omega
      · have := hrow.lt; omega
theorem OutL.done {B : Nat} {w : World} {v : Value} {brs : List Nat} {O : List (List Int)} (h : OutL B w v brs O) : ∃ A c, v = .slice A O.length c ∧ OutAt B w A brs O := by
  obtain ⟨A, c, h1, h2⟩ := h.own.form rowE_len
  rw [List.length_zip, h.len, Nat.min_self] at h1
  exact ⟨A, c, h1, h.len, h2, h.rows, h.nd, h.base⟩
/-- when a job is ready, in the plan O -/
theorem readyO_is (s : Sh) (A : Option Addr) (n c : Nat) (O : List (List Int)) (a : At) (st : List Step) (l : List Int) (v : Int) (w : World) (hS : ShAt w w.heap.size s) (hv : VShop s.p) (hP : Plan w w.heap.size A O) (hn : O.length = n)
    (hj : s.p.jobs[a.j]? = some st) (hx : st[a.k]? = some a.x) (hl : O[a.j]? = some l) (hle : l.length = st.length) (hb : ∀ (i : Nat) t, l[i]? = some t → 0 ≤ t ∧ t ≤ 1000000000) (hr : rdyO s.p O a = v) :
    Calls Try.prog 63 #[.agg #[.int .i64 s.p.op, .int .i64 s.p.cl, .slice s.aH s.p.hol.length s.cH, .int .i64 s.p.mach, .slice s.aS s.p.setup.length s.cS, .slice s.aJ s.p.jobs.length s.cJ], .slice A n c, .agg #[.int .i64 a.j, .int .i64 a.k]] w fun e w' => e = .returned (.int .i64 v) ∧ Below w.heap.size w w' := by
  subst hn hr
  have hs8 := (hv.steps a.j st hj).1
  have hkl := (List.getElem?_eq_some_iff.1 hx).1
  unfold rdyO
  rcases Nat.eq_zero_or_pos a.k with h0 | h0
  · rw [h0]
    exact ready0_any s A c O.length a.j w
  · obtain ⟨k, hk⟩ : ∃ k, a.k = k + 1 := ⟨a.k - 1, by omega⟩
    rw [hk]
    obtain ⟨t, e1⟩ : ∃ t, l[k]? = some t := ⟨_, List.getElem?_eq_getElem (by omega)⟩
    obtain ⟨x, e2⟩ : ∃ x, st[k]? = some x := ⟨_, List.getElem?_eq_getElem (by omega)⟩
    obtain ⟨_, _, x1, x2, _, _, x3, x4⟩ := (hv.steps a.j st hj).2 k _ e2
    have v0 := hv.op0
    have v1 := hv.cl
    have hbt := hb k _ e1
    simp only
    rw [planAt_eq hl e1, stepAt_eq hj e2]
    exact ready1k_any s A c O a.j k st x l t ((k + 1 : Nat) : Int) (by omega) w hS hP hj e2 hl e1 (by omega) ⟨by omega, by omega⟩ ⟨by omega, by omega⟩ ⟨x3, by omega⟩
end Go.Proofs.Ytcpnfcnobnjhdaa
