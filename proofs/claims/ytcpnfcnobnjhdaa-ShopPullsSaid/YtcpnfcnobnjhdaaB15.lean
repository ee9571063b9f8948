/- Parts of the proofs of this seat: DeskP, DispP, Desk, DeskNew. Each part says what it proves; no condition beyond those stated there. -/
import Derived.Test.YtcpnfcnobnjhdaaB8
import Derived.Test.YtcpnfcnobnjhdaaB13
import Derived.Test.YtcpnfcnobnjhdaaB14

/- The desk of package shop: what it is in memory. -/
namespace Go.Proofs.Ytcpnfcnobnjhdaa
open Go.RowKit
theorem Slc.at4_ {w : World} {B : Nat} {A : Option Addr} {xs : List Step} {k : Nat} {x : Step} (h : Slc Step.enc 4 w B A xs) (hx : xs[k]? = some x) :
    ∃ b off, A = some ⟨b, off, none⟩ ∧ b < B ∧ w.cell? ⟨b, off + k * 4, none⟩ = some (.int .i64 x.m) ∧ w.cell? ⟨b, off + k * 4 + 1, none⟩ = some (.int .i64 x.mi) ∧ w.cell? ⟨b, off + k * 4 + 2, none⟩ = some (.int .i64 x.c) ∧ w.cell? ⟨b, off + k * 4 + 3, none⟩ = some (.int .i64 x.d) := by
  obtain ⟨b, off, ha, hb, hc⟩ := h k _ hx
  exact ⟨b, off, ha, hb, by simpa using hc 0 _ rfl, hc 1 _ rfl, hc 2 _ rfl, hc 3 _ rfl⟩
structure Desk where
  last : List (Int × At)
  on : List Int
  plan : List (List Int)
def atV (a : At) : Value := .agg #[.int .i64 a.j, .int .i64 a.k, .int .i64 a.t, .int .i64 a.x.m, .int .i64 a.x.mi, .int .i64 a.x.c, .int .i64 a.x.d]
def intV (n : Int) : Value := .int .i64 n
def rowV (b : Nat) (l : List Int) : Value := .slice (some ⟨b, 0, none⟩) l.length l.length
def kvA (p : Int × At) : Int × Value := (p.1, atV p.2)
def ints (l : List Int) : Array Value := (l.map intV).toArray
theorem ints_size (l : List Int) : (ints l).size = l.length := by simp [ints]
theorem ints_get {l : List Int} {i : Nat} {n : Int} (h : l[i]? = some n) : (ints l)[i]? = some (.int .i64 n) := by simp [ints, h, intV]
theorem ints_set (l : List Int) (i : Nat) (n : Int) : (ints l).setIfInBounds i (.int .i64 n) = ints (l.set i n) := by
  simp [ints, List.setIfInBounds_toArray, List.map_set, intV]
def rowsV (brs : List Nat) (pl : List (List Int)) : Array Value := (List.zipWith rowV brs pl).toArray
/-- Block g is a desk of the shop s; its memory lies in blocks from B on. -/
structure DeskAt (B : Nat) (w : World) (g mb bo bp : Nat) (brs : List Nat) (s : Sh) (D : Desk) : Prop where
  blk : Blk w g 83 #[.int .i64 s.p.op, .int .i64 s.p.cl, .slice s.aH s.p.hol.length s.cH, .int .i64 s.p.mach, .slice s.aS s.p.setup.length s.cS, .slice s.aJ s.p.jobs.length s.cJ, .map (some mb), .slice (some ⟨bo, 0, none⟩) D.on.length D.on.length, .slice (some ⟨bp, 0, none⟩) D.plan.length D.plan.length]
  map : MapOf w mb (D.last.map kvA)
  on : Blk w bo 3 (ints D.on)
  pl : Blk w bp 22 (rowsV brs D.plan)
  len : brs.length = D.plan.length
  rows : ∀ (i b : Nat) l, brs[i]? = some b → D.plan[i]? = some l → Blk w b 3 (ints l)
  nd : (g :: mb :: bo :: bp :: brs).Nodup
  base : ∀ k ∈ g :: mb :: bo :: bp :: brs, B ≤ k
/-- the blocks of a desk that turn -/
def OfDesk (mb bo : Nat) (brs : List Nat) (k : Nat) : Prop := k = mb ∨ k = bo ∨ k ∈ brs
section
variable {B : Nat} {w w' : World} {g mb bo bp : Nat} {brs : List Nat} {s : Sh} {D : Desk}
theorem DeskAt.below (h : DeskAt B w g mb bo bp brs s D) (hb : Below w.heap.size w w') : DeskAt B w' g mb bo bp brs s D :=
  ⟨h.blk.below hb h.blk.lt, h.map.below hb h.map.lt, h.on.below hb h.on.lt, h.pl.below hb h.pl.lt, h.len, fun i b l h1 h2 => (h.rows i b l h1 h2).below hb (h.rows i b l h1 h2).lt, h.nd, h.base⟩
theorem DeskAt.chg {S : Nat → Prop} (h : DeskAt B w g mb bo bp brs s D) (hc : Chg S w w') (hS : ∀ k ∈ g :: mb :: bo :: bp :: brs, ¬ S k) : DeskAt B w' g mb bo bp brs s D :=
  ⟨h.blk.chg hc (hS _ (by simp)), h.map.same (hc.block _ h.map.lt (hS _ (by simp))), h.on.chg hc (hS _ (by simp)), h.pl.chg hc (hS _ (by simp)), h.len,
   fun i b l h1 h2 => (h.rows i b l h1 h2).chg hc (hS _ (by have := List.mem_of_getElem? h1; simp [this])), h.nd, h.base⟩
theorem DeskAt.alloc (h : DeskAt B w g mb bo bp brs s D) (o : Obj) : DeskAt B (w.alloc o) g mb bo bp brs s D := h.below ((Below.refl _ _).alloc (Nat.le_refl _) o)
theorem DeskAt.row (h : DeskAt B w g mb bo bp brs s D) {i : Nat} {l : List Int} (hl : D.plan[i]? = some l) : ∃ b, brs[i]? = some b ∧ Blk w b 3 (ints l) ∧ (rowsV brs D.plan)[i]? = some (.slice (some ⟨b, 0, none⟩) l.length l.length) ∧ B ≤ b := by
  have hi : i < brs.length := by rw [h.len]; exact (List.getElem?_eq_some_iff.1 hl).1
  have hb : brs[i]? = some brs[i] := List.getElem?_eq_getElem hi
  refine ⟨brs[i], hb, h.rows i _ l hb hl, ?_, h.base _ (by simp)⟩
  simp [rowsV, List.getElem?_zipWith, hb, hl, rowV]
/-- the plan that it holds -/
theorem DeskAt.plan_ (h : DeskAt B w g mb bo bp brs s D) : Plan w w.heap.size (some ⟨bp, 0, none⟩) D.plan := fun i l hl => by
  obtain ⟨b, h1, h2, h3, h4⟩ := h.row hl
  refine ⟨bp, 0, some ⟨b, 0, none⟩, l.length, rfl, h.pl.lt, ?_, fun k x hx => ⟨b, 0, rfl, h2.lt, fun j v hv => ?_⟩⟩
  · rw [Nat.zero_add]; exact h.pl.cell_ i h3
  · cases j with
    | zero =>
      simp [intEnc] at hv; subst hv
      simpa using h2.cell_ k (ints_get hx)
    | succ j => simp [intEnc] at hv
end
noncomputable def earlF (p : Shop) (D : Desk) (j : Nat) (x : Step) : Int :=
  nextF p (match look D.last x.m with | some b => max (D.on.getD j 0) (roomF p b x.c) | none => D.on.getD j 0) x.mi
def Desk.put (D : Desk) (a : At) : Desk := ⟨Go.Proofs.Ytcpnfcnobnjhdaa.put D.last a.x.m a, D.on.set a.j a.dry, D.plan.modify a.j fun l => l.set a.k a.t⟩
theorem look_kvA (L : List (Int × At)) (k : Int) : look (L.map kvA) k = (look L k).map atV := by
  unfold look
  rw [List.find?_map]
  show Option.map _ (Option.map kvA (List.find? (fun p => p.1 == k) L)) = _
  cases List.find? (fun p => p.1 == k) L <;> rfl
theorem put_kvA (L : List (Int × At)) (k : Int) (a : At) : Go.Proofs.Ytcpnfcnobnjhdaa.put (L.map kvA) k (atV a) = (Go.Proofs.Ytcpnfcnobnjhdaa.put L k a).map kvA := by
  unfold Go.Proofs.Ytcpnfcnobnjhdaa.put
  rw [look_kvA]
  cases look L k with
  | none => simp [kvA]
  | some b =>
    simp only [Option.map_some, Option.isSome_some, if_true, List.map_map]
    apply List.map_congr_left
    intro p _
    simp only [Function.comp]
    by_cases hp : p.1 = k <;> simp [kvA, hp]
theorem room_bd {p : Shop} (hv : VShop p) {b : At} (hf : AtFit p b) {c : Int} : b.t + b.x.mi ≤ roomF p b c ∧ roomF p b c ≤ b.t + b.x.mi + 1000 := by
  obtain ⟨_, h1, h2⟩ := setup_get hv hf.m0 hf.m1
  unfold roomF At.end_
  split <;> omega
theorem room_bd' {p : Shop} (hv : VShop p) {b : At} (hf : AtFit p b) {c : Int} : 0 ≤ roomF p b c ∧ roomF p b c ≤ 1000010000 := by
  have h := room_bd hv hf (c := c)
  have := hf.t0
  have := hf.t1
  have := hf.mi0
  have := hf.mi1
  omega
section
variable {B : Nat} {w w' : World} {g mb bo bp : Nat} {brs : List Nat} {s : Sh} {D : Desk}
theorem DeskAt.nes (h : DeskAt B w g mb bo bp brs s D) : (g ≠ mb ∧ g ≠ bo ∧ g ≠ bp ∧ ∀ b ∈ brs, g ≠ b) ∧ (mb ≠ bo ∧ mb ≠ bp ∧ ∀ b ∈ brs, mb ≠ b) ∧ (bo ≠ bp ∧ ∀ b ∈ brs, bo ≠ b) ∧ (∀ b ∈ brs, bp ≠ b) ∧ brs.Nodup := by
  have hn := h.nd
  simp only [List.nodup_cons, List.mem_cons, not_or] at hn
  obtain ⟨⟨a1, a2, a3, a4⟩, ⟨b1, b2, b3⟩, ⟨c1, c2⟩, d, e⟩ := hn
  exact ⟨⟨a1, a2, a3, fun b hb he => a4 (he ▸ hb)⟩, ⟨b1, b2, fun b hb he => b3 (he ▸ hb)⟩, ⟨c1, fun b hb he => c2 (he ▸ hb)⟩, fun b hb he => d (he ▸ hb), e⟩
theorem DeskAt.setMap (h : DeskAt B w g mb bo bp brs s D) {k : Int} {a : At} (hM : MapOf w' mb (Go.Proofs.Ytcpnfcnobnjhdaa.put (D.last.map kvA) k (atV a))) (hc : Chg (fun k => k = mb) w w') : DeskAt B w' g mb bo bp brs s ⟨Go.Proofs.Ytcpnfcnobnjhdaa.put D.last k a, D.on, D.plan⟩ := by
  obtain ⟨⟨a1, a2, a3, a4⟩, ⟨b1, b2, b3⟩, ⟨c1, c2⟩, d, e⟩ := h.nes
  rw [put_kvA] at hM
  exact ⟨h.blk.chg1 hc a1, hM, h.on.chg1 hc (Ne.symm b1), h.pl.chg1 hc (Ne.symm b2), h.len, fun i b l h1 h2 => (h.rows i b l h1 h2).chg1 hc (Ne.symm (b3 b (List.mem_of_getElem? h1))), h.nd, h.base⟩
theorem DeskAt.setOn (h : DeskAt B w g mb bo bp brs s D) {j : Nat} {d : Int} (hO : Blk w' bo 3 ((ints D.on).setIfInBounds j (.int .i64 d))) (hc : Chg (fun k => k = bo) w w') : DeskAt B w' g mb bo bp brs s ⟨D.last, D.on.set j d, D.plan⟩ := by
  obtain ⟨⟨a1, a2, a3, a4⟩, ⟨b1, b2, b3⟩, ⟨c1, c2⟩, d, e⟩ := h.nes
  rw [ints_set] at hO
  exact ⟨by simpa using h.blk.chg1 hc a2, h.map.same (hc.block _ h.map.lt b1), hO, h.pl.chg1 hc (Ne.symm c1), h.len, fun i b l h1 h2 => (h.rows i b l h1 h2).chg1 hc (Ne.symm (c2 b (List.mem_of_getElem? h1))), h.nd, h.base⟩
theorem rowsV_modify {brs : List Nat} {pl : List (List Int)} {j : Nat} {f : List Int → List Int} (hf : ∀ l, (f l).length = l.length) : rowsV brs (pl.modify j f) = rowsV brs pl := by
  unfold rowsV
  congr 1
  apply List.ext_getElem?
  intro i
  simp only [List.getElem?_zipWith, List.getElem?_modify]
  cases brs[i]? with
  | none => rfl
  | some b =>
    cases pl[i]? with
    | none => rfl
    | some l =>
      by_cases hji : j = i <;> simp [hji, rowV, hf]
theorem DeskAt.setRow (h : DeskAt B w g mb bo bp brs s D) {j k br : Nat} {l : List Int} {t : Int} (hbr : brs[j]? = some br) (hl : D.plan[j]? = some l) (hR : Blk w' br 3 ((ints l).setIfInBounds k (.int .i64 t))) (hc : Chg (fun k => k = br) w w') :
    DeskAt B w' g mb bo bp brs s ⟨D.last, D.on, D.plan.modify j fun l => l.set k t⟩ := by
  obtain ⟨⟨a1, a2, a3, a4⟩, ⟨b1, b2, b3⟩, ⟨c1, c2⟩, d, e⟩ := h.nes
  have hm := List.mem_of_getElem? hbr
  rw [ints_set] at hR
  refine ⟨by simpa using h.blk.chg1 hc (a4 _ hm), h.map.same (hc.block _ h.map.lt (b3 _ hm)), h.on.chg1 hc (c2 _ hm), ?_, by simpa using h.len, fun i b l' h1 h2 => ?_, h.nd, h.base⟩
  · rw [rowsV_modify (fun l => by simp)]
    exact h.pl.chg1 hc (d _ hm)
  · rw [List.getElem?_modify] at h2
    by_cases hij : j = i
    · subst hij
      rw [hbr] at h1
      injection h1 with h1
      subst h1
      rw [hl] at h2
      simp at h2
      subst h2
      exact hR
    · cases hpi : D.plan[i]? with
      | none => rw [hpi] at h2; simp at h2
      | some l0 =>
        rw [hpi] at h2
        simp [hij] at h2
        subst h2
        refine (h.rows i b l0 h1 hpi).chg1 hc fun he => ?_
        subst he
        have h4 := List.getElem?_eq_some_iff.1 hbr
        exact hij ((List.getElem?_inj h4.1 e).1 (hbr.trans h1.symm))
theorem DeskAt.lts (h : DeskAt B w g mb bo bp brs s D) : ∀ k ∈ g :: mb :: bo :: bp :: brs, k < w.heap.size := fun k hk => by
  simp only [List.mem_cons] at hk
  rcases hk with rfl | rfl | rfl | rfl | hk
  · exact h.blk.lt
  · exact h.map.lt
  · exact h.on.lt
  · exact h.pl.lt
  · obtain ⟨i, hi⟩ := List.getElem?_of_mem hk
    have hil : i < D.plan.length := by rw [← h.len]; exact (List.getElem?_eq_some_iff.1 hi).1
    exact (h.rows i k _ hi (List.getElem?_eq_getElem hil)).lt
end
end Go.Proofs.Ytcpnfcnobnjhdaa

/- Dispatch: the plain words. -/
namespace Go.Proofs.Ytcpnfcnobnjhdaa
open Go.RowKit
/-- the last steps of the machines, and the starts so far -/
structure DS where
  last : List (Int × At)
  pl : List (List Int)
def bd (K : Nat) : Int := 20000000 + K * 20000
def cnt (pl : List (List Int)) : Nat := (pl.map List.length).sum
def total (p : Shop) : Nat := (p.jobs.map List.length).sum
/-- when a job is ready for its next step -/
def rdy (st : List Step) (l : List Int) : Int := match l.length with
  | 0 => 0
  | k + 1 => l.getD k 0 + (st.getD k ⟨0, 0, 0, 0⟩).mi + (st.getD k ⟨0, 0, 0, 0⟩).d
noncomputable def prevF (p : Shop) (last : List (Int × At)) (x : Step) (r : Int) : Int := match look last x.m with
  | some b => max r (roomF p b x.c)
  | none => r
noncomputable def candT (p : Shop) (last : List (Int × At)) (st : List Step) (l : List Int) : Option Int := match st[l.length]? with
  | none => none
  | some x => some (nextF p (prevF p last x (rdy st l)) x.mi)
def upd (acc : Option (Nat × Int)) (j : Nat) (c : Option Int) : Option (Nat × Int) := match c with
  | none => acc
  | some t => match acc with
    | none => some (j, t)
    | some (b, w) => if t < w then some (j, t) else some (b, w)
noncomputable def bestFrom (p : Shop) (last : List (Int × At)) : Nat → List (List Step) → List (List Int) → Option (Nat × Int) → Option (Nat × Int)
  | j, st :: js, l :: ls, acc => bestFrom p last (j + 1) js ls (upd acc j (candT p last st l))
  | _, _, _, acc => acc
noncomputable def bestF (p : Shop) (S : DS) : Option (Nat × Int) := bestFrom p S.last 0 p.jobs S.pl none
def stepAt (p : Shop) (j k : Nat) : Step := (p.jobs.getD j []).getD k ⟨0, 0, 0, 0⟩
def putS (p : Shop) (S : DS) (j : Nat) (t : Int) : DS :=
  ⟨put S.last (stepAt p j (S.pl.getD j []).length).m ⟨j, (S.pl.getD j []).length, t, stepAt p j (S.pl.getD j []).length⟩, S.pl.modify j fun l => l ++ [t]⟩
noncomputable def nextS (p : Shop) (S : DS) : DS := match bestF p S with
  | none => S
  | some (j, t) => putS p S j t
noncomputable def iterS (p : Shop) : Nat → DS → DS
  | 0, S => S
  | n + 1, S => iterS p n (nextS p S)
def ds0 (p : Shop) : DS := ⟨[], List.replicate p.jobs.length []⟩
noncomputable def dispF (p : Shop) : List (List Int) := (iterS p (total p) (ds0 p)).pl
theorem iterS_none {p : Shop} {S : DS} (h : bestF p S = none) : ∀ n, iterS p n S = S
  | 0 => rfl
  | n + 1 => by
    unfold iterS nextS
    rw [h]
    exact iterS_none h n
theorem iterS_some {p : Shop} {S : DS} {j n : Nat} {t : Int} (h : bestF p S = some (j, t)) : iterS p (n + 1) S = iterS p n (putS p S j t) := by
  show iterS p n (nextS p S) = _
  unfold nextS; rw [h]
/-- the state of a dispatch -/
structure VS (p : Shop) (S : DS) : Prop where
  len : S.pl.length = p.jobs.length
  row : ∀ (j : Nat) st l, p.jobs[j]? = some st → S.pl[j]? = some l → l.length ≤ st.length ∧ ∀ (i : Nat) t, l[i]? = some t → 0 ≤ t ∧ t ≤ bd (cnt S.pl)
  last : ∀ m b, look S.last m = some b → AtFit p b ∧ b.x.m = m ∧ 0 ≤ b.x.c ∧ b.x.c ≤ 9 ∧ b.t ≤ bd (cnt S.pl)
theorem cnt_le {p : Shop} : ∀ {js : List (List Step)} {pl : List (List Int)}, pl.length = js.length → (∀ (j : Nat) st l, js[j]? = some st → pl[j]? = some l → l.length ≤ st.length) → (pl.map List.length).sum ≤ (js.map List.length).sum
  | [], [], _, _ => Nat.le_refl _
  | [], _ :: _, h, _ => by simp at h
  | _ :: _, [], h, _ => by simp at h
  | st :: js, l :: pl, h, hr => by
    have h1 := hr 0 st l rfl rfl
    have h2 := cnt_le (p := p) (js := js) (pl := pl) (by simpa using h) fun j s x g1 g2 => hr (j + 1) s x (by simpa using g1) (by simpa using g2)
    simp only [List.map_cons, List.sum_cons]
    omega
theorem cnt_lt {p : Shop} : ∀ {js : List (List Step)} {pl : List (List Int)}, pl.length = js.length → (∀ (j : Nat) st l, js[j]? = some st → pl[j]? = some l → l.length ≤ st.length) → (∃ (j : Nat) (st : List Step) (l : List Int), js[j]? = some st ∧ pl[j]? = some l ∧ l.length < st.length) → (pl.map List.length).sum < (js.map List.length).sum
  | [], _, _, _, h => by obtain ⟨j, st, l, h, _⟩ := h; simp at h
  | _ :: _, [], h, _, _ => by simp at h
  | st :: js, l :: pl, h, hr, ⟨j, s, x, g1, g2, g3⟩ => by
    have h1 := hr 0 st l rfl rfl
    have hr' : ∀ (j : Nat) s x, js[j]? = some s → pl[j]? = some x → x.length ≤ s.length := fun j s x g1 g2 => hr (j + 1) s x (by simpa using g1) (by simpa using g2)
    simp only [List.map_cons, List.sum_cons]
    cases j with
    | zero =>
      simp at g1 g2; subst g1 g2
      have h2 := cnt_le (p := p) (js := js) (pl := pl) (by simpa using h) hr'
      omega
    | succ j =>
      have h2 := cnt_lt (p := p) (js := js) (pl := pl) (by simpa using h) hr' ⟨j, s, x, by simpa using g1, by simpa using g2, g3⟩
      omega
theorem cnt_snoc : ∀ {pl : List (List Int)} {j : Nat} {l : List Int} {t : Int}, pl[j]? = some l → cnt (pl.modify j fun l => l ++ [t]) = cnt pl + 1
  | [], j, l, t, h => by simp at h
  | l' :: pl, 0, l, t, h => by simp [cnt]; omega
  | l' :: pl, j + 1, l, t, h => by
    have := cnt_snoc (pl := pl) (j := j) (l := l) (t := t) (by simpa using h)
    unfold cnt at this ⊢
    simp only [List.modify_succ_cons, List.map_cons, List.sum_cons]
    omega
theorem sum_le (n : Nat) : ∀ {js : List (List Step)}, (∀ l ∈ js, l.length ≤ n) → (js.map List.length).sum ≤ js.length * n
  | [], _ => by simp
  | l :: js, h => by
    have h1 := h l (by simp)
    have h2 := sum_le n (js := js) fun l hl => h l (by simp [hl])
    simp only [List.map_cons, List.sum_cons, List.length_cons, Nat.succ_mul]
    omega
theorem total_le {p : Shop} (hv : VShop p) : total p ≤ 96 := by
  have h := sum_le 8 (js := p.jobs) fun l hl => by
    obtain ⟨i, hi⟩ := List.getElem?_of_mem hl
    exact (hv.steps i l hi).1
  have := hv.jobn
  unfold total
  omega
theorem VS.cnt_le {p : Shop} {S : DS} (h : VS p S) : cnt S.pl ≤ total p := Go.Proofs.Ytcpnfcnobnjhdaa.cnt_le (p := p) h.len fun j st l h1 h2 => (h.row j st l h1 h2).1
theorem rdy_bd {p : Shop} (hv : VShop p) {S : DS} (h : VS p S) {j : Nat} {st : List Step} {l : List Int} (hj : p.jobs[j]? = some st) (hl : S.pl[j]? = some l) : 0 ≤ rdy st l ∧ rdy st l ≤ bd (cnt S.pl) + 11440 := by
  obtain ⟨h1, h2⟩ := h.row j st l hj hl
  have hb : 0 ≤ bd (cnt S.pl) := by unfold bd; omega
  unfold rdy
  split
  · omega
  · rename_i k hk
    have hkl : k < l.length := by omega
    have hks : k < st.length := by omega
    have e1 : l[k]? = some l[k] := List.getElem?_eq_getElem hkl
    have e2 : st[k]? = some st[k] := List.getElem?_eq_getElem hks
    have g1 := h2 k _ e1
    obtain ⟨_, _, x1, x2, _, _, x3, x4⟩ := (hv.steps j st hj).2 k _ e2
    have v0 := hv.op0
    have v1 := hv.cl
    rw [List.getD_eq_getElem?_getD, List.getD_eq_getElem?_getD, e1, e2]
    simp only [Option.getD_some]
    omega
theorem prev_bd {p : Shop} (hv : VShop p) {S : DS} (h : VS p S) {x : Step} {r : Int} (h0 : 0 ≤ r) (h1 : r ≤ bd (cnt S.pl) + 11440) : 0 ≤ prevF p S.last x r ∧ prevF p S.last x r ≤ bd (cnt S.pl) + 11440 := by
  unfold prevF
  cases hl : look S.last x.m with
  | none => exact ⟨h0, h1⟩
  | some b =>
    obtain ⟨hf, _, _, _, ht⟩ := h.last _ b hl
    have := room_bd hv hf (c := x.c)
    have := hf.mi1
    have := hf.t0
    have := hf.mi0
    show 0 ≤ max r (roomF p b x.c) ∧ max r (roomF p b x.c) ≤ _
    omega
theorem next_bd {p : Shop} (hv : VShop p) {S : DS} {t m : Int} (h0 : 0 ≤ t) (h1 : t ≤ bd (cnt S.pl) + 11440) (hm : m ≤ p.cl - p.op) : 0 ≤ nextF p t m ∧ nextF p t m ≤ bd (cnt S.pl + 1) := by
  have h2 := next_ge hv h0 hm
  have h3 := (next_is hv h0 hm).2
  have := hv.opcl
  have := hv.cl
  have : 0 ≤ (cnt S.pl : Int) := by omega
  unfold bd at h1 ⊢
  push_cast
  omega
theorem candT_some {p : Shop} (hv : VShop p) {S : DS} (h : VS p S) {j : Nat} {st : List Step} {l : List Int} {t : Int} (hj : p.jobs[j]? = some st) (hl : S.pl[j]? = some l) (hc : candT p S.last st l = some t) :
    ∃ x, st[l.length]? = some x ∧ t = nextF p (prevF p S.last x (rdy st l)) x.mi ∧ 0 ≤ t ∧ t ≤ bd (cnt S.pl + 1) := by
  unfold candT at hc
  cases hx : st[l.length]? with
  | none => rw [hx] at hc; cases hc
  | some x =>
    rw [hx] at hc
    injection hc with hc
    obtain ⟨_, _, x1, x2, _⟩ := (hv.steps j st hj).2 _ x hx
    have h1 := rdy_bd hv h hj hl
    have h2 := prev_bd hv h (x := x) h1.1 h1.2
    have h3 := next_bd hv (S := S) h2.1 h2.2 x2
    exact ⟨x, rfl, hc.symm, by rw [← hc]; exact h3.1, by rw [← hc]; exact h3.2⟩
/-- what the search finds -/
theorem bestFrom_some {p : Shop} {last : List (Int × At)} : ∀ {js : List (List Step)} {ls : List (List Int)} {j : Nat} {acc : Option (Nat × Int)} {b : Nat} {t : Int}, bestFrom p last j js ls acc = some (b, t) →
    acc = some (b, t) ∨ ∃ i st l, b = j + i ∧ js[i]? = some st ∧ ls[i]? = some l ∧ candT p last st l = some t
  | [], ls, j, acc, b, t, h => .inl (by simpa [bestFrom] using h)
  | _ :: _, [], j, acc, b, t, h => .inl (by simpa [bestFrom] using h)
  | st :: js, l :: ls, j, acc, b, t, h => by
    unfold bestFrom at h
    rcases bestFrom_some h with h1 | ⟨i, st', l', h1, h2, h3, h4⟩
    · cases hc : candT p last st l with
      | none => rw [hc] at h1; exact .inl h1
      | some u =>
        rw [hc] at h1
        unfold upd at h1
        cases acc with
        | none =>
          simp at h1
          exact .inr ⟨0, st, l, by omega, rfl, rfl, by rw [hc, h1.2]⟩
        | some a =>
          obtain ⟨a1, a2⟩ := a
          simp only at h1
          split at h1
          · injection h1 with h1
            injection h1 with h5 h6
            exact .inr ⟨0, st, l, by omega, rfl, rfl, by rw [hc, h6]⟩
          · exact .inl h1
    · exact .inr ⟨i + 1, st', l', by omega, by simpa using h2, by simpa using h3, h4⟩
theorem upd_none {acc : Option (Nat × Int)} {j : Nat} {c : Option Int} (h : upd acc j c = none) : acc = none ∧ c = none := by
  unfold upd at h
  cases c with
  | none => exact ⟨h, rfl⟩
  | some t =>
    cases acc with
    | none => cases h
    | some a =>
      simp only at h
      split at h <;> cases h
theorem bestFrom_none {p : Shop} {last : List (Int × At)} : ∀ {js : List (List Step)} {ls : List (List Int)} {j : Nat} {acc : Option (Nat × Int)}, bestFrom p last j js ls acc = none →
    acc = none ∧ ∀ (i : Nat) st l, js[i]? = some st → ls[i]? = some l → candT p last st l = none
  | [], ls, j, acc, h => ⟨by simpa [bestFrom] using h, fun i st l h1 _ => by simp at h1⟩
  | _ :: _, [], j, acc, h => ⟨by simpa [bestFrom] using h, fun i st l _ h1 => by simp at h1⟩
  | st :: js, l :: ls, j, acc, h => by
    unfold bestFrom at h
    obtain ⟨h1, h2⟩ := bestFrom_none h
    obtain ⟨h3, h4⟩ := upd_none h1
    refine ⟨h3, fun i st' l' g1 g2 => ?_⟩
    cases i with
    | zero => simp at g1 g2; subst g1 g2; exact h4
    | succ i => exact h2 i st' l' (by simpa using g1) (by simpa using g2)
theorem bestFrom_drop {p : Shop} {last : List (Int × At)} {js : List (List Step)} {ls : List (List Int)} {j : Nat} {acc : Option (Nat × Int)} {st : List Step} {l : List Int} (h1 : js[j]? = some st) (h2 : ls[j]? = some l) :
    bestFrom p last j (js.drop j) (ls.drop j) acc = bestFrom p last (j + 1) (js.drop (j + 1)) (ls.drop (j + 1)) (upd acc j (candT p last st l)) := by
  obtain ⟨g1, e1⟩ := List.getElem?_eq_some_iff.1 h1
  obtain ⟨g2, e2⟩ := List.getElem?_eq_some_iff.1 h2
  rw [List.drop_eq_getElem_cons g1, List.drop_eq_getElem_cons g2, e1, e2]
  rfl
/-- what is known of the best -/
theorem best_at {p : Shop} (hv : VShop p) {S : DS} (h : VS p S) {j : Nat} {t : Int} (hb : bestF p S = some (j, t)) :
    ∃ st l x, p.jobs[j]? = some st ∧ S.pl[j]? = some l ∧ st[l.length]? = some x ∧ t = nextF p (prevF p S.last x (rdy st l)) x.mi ∧ 0 ≤ t ∧ t ≤ bd (cnt S.pl + 1) ∧ cnt S.pl < total p := by
  rcases bestFrom_some hb with h1 | ⟨i, st, l, h1, h2, h3, h4⟩
  · cases h1
  · obtain rfl : j = i := by omega
    obtain ⟨x, g1, g2, g3, g4⟩ := candT_some hv h h2 h3 h4
    refine ⟨st, l, x, h2, h3, g1, g2, g3, g4, ?_⟩
    exact cnt_lt (p := p) h.len (fun j st l h1 h2 => (h.row j st l h1 h2).1) ⟨j, st, l, h2, h3, (List.getElem?_eq_some_iff.1 g1).1⟩
theorem putS_eq {p : Shop} {S : DS} {j : Nat} {st : List Step} {l : List Int} {x : Step} (t : Int) (hj : p.jobs[j]? = some st) (hl : S.pl[j]? = some l) (hx : st[l.length]? = some x) :
    putS p S j t = ⟨put S.last x.m ⟨j, l.length, t, x⟩, S.pl.modify j fun l => l ++ [t]⟩ := by
  have e1 : S.pl.getD j [] = l := by rw [List.getD_eq_getElem?_getD, hl]; rfl
  have e2 : stepAt p j l.length = x := by
    have e3 : p.jobs.getD j [] = st := by rw [List.getD_eq_getElem?_getD, hj]; rfl
    unfold stepAt; rw [e3, List.getD_eq_getElem?_getD, hx]; rfl
  unfold putS
  rw [e1, e2]
theorem look_cons {V : Type} (a : Int) (u : V) (M : List (Int × V)) (k : Int) : look ((a, u) :: M) k = if a = k then some u else look M k := by
  unfold look
  rw [List.find?_cons]
  by_cases h : a = k
  · subst h; simp
  · have h1 : (a == k) = false := by simpa using h
    simp only [h1, if_neg h]
theorem look_map {V : Type} {k k' : Int} {v : V} : ∀ M : List (Int × V), look (M.map fun p => if p.1 == k then (k, v) else p) k' = if k' = k then (if (look M k).isSome then some v else none) else look M k'
  | [] => by simp [look]
  | (a, u) :: M => by
    rw [List.map_cons, look_cons a u M k, look_cons a u M k']
    by_cases ha : a = k
    · subst ha
      rw [if_pos (by simp), look_cons, look_map M]
      by_cases hk : k' = a
      · subst hk; simp
      · rw [if_neg (fun he => hk he.symm), if_neg hk, if_neg hk, if_neg (fun he => hk he.symm)]
    · have h1 : (a == k) = false := by simpa using ha
      simp only [h1, Bool.false_eq_true, if_false]
      rw [look_cons, look_map M]
      by_cases hk : k' = k
      · subst hk; simp [ha]
      · simp only [if_neg hk]
theorem look_app {V : Type} (M : List (Int × V)) (k k' : Int) (v : V) (h : look M k = none) : look (M ++ [(k, v)]) k' = if k' = k then some v else look M k' := by
  induction M with
  | nil =>
    rw [List.nil_append, look_cons]
    by_cases hk : k' = k
    · subst hk; simp
    · rw [if_neg (fun he => hk he.symm), if_neg hk]
  | cons p M ih =>
    obtain ⟨a, u⟩ := p
    rw [look_cons] at h
    rw [List.cons_append, look_cons, look_cons]
    by_cases ha : a = k
    · rw [if_pos ha] at h; cases h
    · rw [if_neg ha] at h
      rw [ih h]
      by_cases hk : k' = k
      · subst hk; simp [ha]
      · simp only [if_neg hk]
theorem look_put {V : Type} {M : List (Int × V)} {k k' : Int} {v : V} : look (put M k v) k' = if k' = k then some v else look M k' := by
  unfold put
  by_cases hs : (look M k).isSome
  · rw [if_pos hs, look_map, if_pos hs]
  · rw [if_neg hs, look_app]
    cases hl : look M k with
    | none => rfl
    | some u => rw [hl] at hs; simp at hs
theorem VS.put_ {p : Shop} (hv : VShop p) {S : DS} (h : VS p S) {j : Nat} {t : Int} (hb : bestF p S = some (j, t)) : VS p (putS p S j t) ∧ cnt (putS p S j t).pl = cnt S.pl + 1 := by
  obtain ⟨st, l, x, h1, h2, h3, _, h5, h6, h7⟩ := best_at hv h hb
  have hc : cnt (S.pl.modify j fun l => l ++ [t]) = cnt S.pl + 1 := cnt_snoc h2
  have ht := total_le hv
  have hbd : bd (cnt S.pl) ≤ bd (cnt S.pl + 1) := by unfold bd; push_cast; omega
  have hb2 : bd (cnt S.pl + 1) ≤ 1000000000 := by unfold bd; push_cast; omega
  rw [putS_eq t h1 h2 h3]
  refine ⟨⟨by simpa using h.len, fun i s y g1 g2 => ?_, fun m b g => ?_⟩, hc⟩
  · show _ ∧ ∀ i t', _ → _ ∧ _ ≤ bd (cnt (S.pl.modify j fun l => l ++ [t]))
    rw [hc]
    rw [List.getElem?_modify] at g2
    by_cases hij : j = i
    · subst hij
      rw [h1] at g1; injection g1 with g1; subst g1
      rw [h2] at g2; simp at g2; subst g2
      obtain ⟨r1, r2⟩ := h.row j st l h1 h2
      refine ⟨by have := (List.getElem?_eq_some_iff.1 h3).1; simp; omega, fun i t' hi => ?_⟩
      by_cases hil : i < l.length
      · rw [List.getElem?_append_left hil] at hi
        have := r2 i t' hi; omega
      · have hlt := (List.getElem?_eq_some_iff.1 hi).1
        simp at hlt
        obtain rfl : i = l.length := by omega
        simp at hi
        subst hi
        exact ⟨h5, h6⟩
    · cases hp : S.pl[i]? with
      | none => rw [hp] at g2; simp at g2
      | some l0 =>
        rw [hp] at g2
        simp [hij] at g2
        subst g2
        obtain ⟨r1, r2⟩ := h.row i s l0 g1 hp
        exact ⟨r1, fun i t' hi => by have := r2 i t' hi; omega⟩
  · show _ ∧ _ ∧ _ ∧ _ ∧ _ ≤ bd (cnt (S.pl.modify j fun l => l ++ [t]))
    rw [hc]
    have g' : look (put S.last x.m ⟨j, l.length, t, x⟩) m = some b := g
    rw [look_put] at g'
    split at g'
    · rename_i hm
      injection g' with g'
      subst g'
      obtain ⟨m0, m1, x1, x2, c0, c1, d0, d1⟩ := (hv.steps j st h1).2 _ x h3
      have := hv.op0
      have := hv.cl
      exact ⟨⟨h5, by show t ≤ _; omega, by show 0 ≤ x.mi; omega, by show x.mi ≤ _; omega, d0, d1, m0, by show x.m < _; omega⟩, hm.symm, c0, c1, h6⟩
    · obtain ⟨r1, r2, r3, r4, r5⟩ := h.last m b g'
      exact ⟨r1, r2, r3, r4, by omega⟩
theorem VS.start (p : Shop) : VS p (ds0 p) := by
  refine ⟨by simp [ds0], fun j st l h1 h2 => ?_, fun m b h => by simp [ds0, look] at h⟩
  have hl : l = [] := by
    simp [ds0, List.getElem?_replicate] at h2
    exact h2.2
  subst hl
  exact ⟨Nat.zero_le _, fun i t h => by simp at h⟩
theorem cnt_start (p : Shop) : cnt (ds0 p).pl = 0 := by simp [cnt, ds0]
end Go.Proofs.Ytcpnfcnobnjhdaa

/- The desk of package shop: the walks of earliest and put. -/
namespace Go.Proofs.Ytcpnfcnobnjhdaa
open Go.RowKit
def zeroAt : At := ⟨0, 0, 0, ⟨0, 0, 0, 0⟩⟩
set_option maxRecDepth 100000 in
set_option maxHeartbeats 2000000 in
theorem earliest_any (B g mb bo bp : Nat) (brs : List Nat) (s : Sh) (D : Desk) (j : Nat) (x : Step) (t : Int) (w : World) (hS : ShAt w w.heap.size s) (hv : VShop s.p) (hD : DeskAt B w g mb bo bp brs s D)
    (hj : D.on[j]? = some t) (ht0 : 0 ≤ t) (ht1 : t ≤ 1000000000) (hfit : ∀ b, look D.last x.m = some b → AtFit s.p b) (x1 : 1 ≤ x.mi) (x2 : x.mi ≤ s.p.cl - s.p.op) :
    Calls Try.prog 61 #[.pointer (some ⟨g, 0, none⟩), .int .i64 j, .agg #[.int .i64 x.m, .int .i64 x.mi, .int .i64 x.c, .int .i64 x.d]] w fun e w' => e = .returned (.int .i64 (earlF s.p D j x)) ∧ Below w.heap.size w w' := by
  have hjl : (j : Int) < (D.on.length : Int) := by have := (List.getElem?_eq_some_iff.1 hj).1; omega
  have hz : ∀ w, (zeroValue 91).run Try.prog w = .ok (.agg #[.int .i64 0, .int .i64 0, .int .i64 0, .int .i64 0, .int .i64 0, .int .i64 0, .int .i64 0]) w := fun _ => by kernel_rfl
  have HJ := hide hj
  have hget : D.on.getD j 0 = t := by rw [List.getD_eq_getElem?_getD, hj]; rfl
  have HE : Hid (earlF s.p D j x = nextF s.p (match look D.last x.m with | some b => max t (roomF s.p b x.c) | none => t) x.mi) := by show _ = _; unfold earlF; rw [hget]; rfl
  have HZ := hide hz
  have HF := hide hfit
  clear hj hget hz hfit
  have hk := Blk.new w 69 #[.int .i64 x.m, .int .i64 x.mi, .int .i64 x.c, .int .i64 x.d]
  have hB := (Below.refl w.heap.size w).alloc (Nat.le_refl _) (.cells #[.int .i64 x.m, .int .i64 x.mi, .int .i64 x.c, .int .i64 x.d] 69)
  replace hD := hD.alloc (.cells #[.int .i64 x.m, .int .i64 x.mi, .int .i64 x.c, .int .i64 x.d] 69)
  have b2 := hD.on.cell_ j (ints_get HJ.out)
  have g2 := hD.blk.cell_ 7 rfl
  go_enter Try.func61, Try.ntmps61
  go_wp2_with fail
  clear b2 g2
  generalize w.alloc (.cells #[.int .i64 x.m, .int .i64 x.mi, .int .i64 x.c, .int .i64 x.d] 69) = W at *
  have g6 := hD.blk.cell_ 6 rfl
  have x0 := hk.cell_ 0 rfl
  have x1 := hk.cell_ 1 rfl
  have x2 := hk.cell_ 2 rfl
  have x3 := hk.cell_ 3 rfl
  cases hl : look D.last x.m with
  | none =>
    have HL : Hid (∀ w', Below W.heap.size W w' → (Instr.lookup 81 (.map (some mb)) (.int .i64 x.m) true).run Try.prog w' = .ok (.tuple #[.agg #[.int .i64 0, .int .i64 0, .int .i64 0, .int .i64 0, .int .i64 0, .int .i64 0, .int .i64 0], .bool false]) w') := fun w' hb =>
      (hD.below hb).map.look_no Try.underlying81 Try.underlying3 HZ.out (by rw [look_kvA, hl]; rfl) true
    have HE2 : Hid (earlF s.p D j x = nextF s.p t x.mi) := by show _ = _; rw [HE.out, hl]
    clear hl
    go_wp2_with fail
    have z_x0 := hide (fun w' (hb : Below W.heap.size W w') => Since.later hb x0)
    have z_x1 := hide (fun w' (hb : Below W.heap.size W w') => Since.later hb x1)
    have z_x2 := hide (fun w' (hb : Below W.heap.size W w') => Since.later hb x2)
    have z_x3 := hide (fun w' (hb : Below W.heap.size W w') => Since.later hb x3)
    have z_g6 := hide (fun w' (hb : Below W.heap.size W w') => Since.later hb g6)
    have hok : FldOk W ([⟨10, .ptr, (.cells #[.int .i64 0, .int .i64 0, .int .i64 0, .int .i64 0, .int .i64 0, .int .i64 0, .int .i64 0] 91), 11, (.cells #[.int .i64 0, .int .i64 0, .int .i64 0, .int .i64 0, .int .i64 0, .int .i64 0, .int .i64 0] 91)⟩]) [] := FldOk.nil_
    refine wp_region_both 12 [0, 1, 2, 3, 4, 5, 6, 7, 8, 9] [10, 11] [⟨10, .ptr, (.cells #[.int .i64 0, .int .i64 0, .int .i64 0, .int .i64 0, .int .i64 0, .int .i64 0, .int .i64 0] 91), 11, (.cells #[.int .i64 0, .int .i64 0, .int .i64 0, .int .i64 0, .int .i64 0, .int .i64 0, .int .i64 0] 91)⟩] [] (fun f hf => by cases hf) (by kernel_rfl) (by kernel_rfl) (by kernel_rfl) (by kernel_rfl) (by kernel_rfl) (by simp) ?_
    apply Exists.intro
    refine ⟨fun W1 hc0 => ?_, ?_⟩
    · have hb := hc0.nil_
      have y_x0 := Since.cell (z_x0.out W1 hb)
      have y_x1 := Since.cell (z_x1.out W1 hb)
      have y_x2 := Since.cell (z_x2.out W1 hb)
      have y_x3 := Since.cell (z_x3.out W1 hb)
      have y_g6 := Since.cell (z_g6.out W1 hb)
      have y_HL := fun u : Since W1 => HL.out u.w (hb.trans (u.h.mono hb.size))
      replace hk := hk.below hb hk.lt
      replace hD := hD.below hb
      replace hB := hB.trans (hb.mono hB.size)
      dsimp only [pick, List.filterMap, List.getElem?_cons_succ, List.getElem?_cons_zero]
      repeat (go_big_quiet_step ((fail)))
      exact wpQuiet_nil rfl
    · refine ownWalk_alloc ⟨10, .ptr, (.cells #[.int .i64 0, .int .i64 0, .int .i64 0, .int .i64 0, .int .i64 0, .int .i64 0, .int .i64 0] 91), 11, (.cells #[.int .i64 0, .int .i64 0, .int .i64 0, .int .i64 0, .int .i64 0, .int .i64 0, .int .i64 0] 91)⟩ hok (by kernel_rfl) rfl rfl rfl rfl (fun _ => rfl) (by simp) (by simp) (fun h => absurd h (by simp)) ?_
      intro gxb
      simp only [Shape.val, List.setIfInBounds_toArray, List.set_cons_succ, List.set_cons_zero]
      refine ownWalk_fill (cs := #[.int .i64 0, .int .i64 0, .int .i64 0, .int .i64 0, .int .i64 0, .int .i64 0, .int .i64 0]) (cs' := #[.int .i64 0, .int .i64 0, .int .i64 0, .int .i64 0, .int .i64 0, .int .i64 0, .int .i64 0]) ⟨10, .ptr, (.cells #[.int .i64 0, .int .i64 0, .int .i64 0, .int .i64 0, .int .i64 0, .int .i64 0, .int .i64 0] 91), 11, (.cells #[.int .i64 0, .int .i64 0, .int .i64 0, .int .i64 0, .int .i64 0, .int .i64 0, .int .i64 0] 91)⟩ hok (by kernel_rfl) rfl rfl rfl rfl rfl rfl rfl rfl (by kernel_rfl) rfl (by simp [Value.oneCell']) rfl rfl (by simp) (by simp) (by simp) rfl ?_ (by simp)
      refine ownWalk_nil ?_
      intro w' hc0 hD
      have hb := hc0.nil_
      obtain ⟨gxge, gx⟩ := hD.box.get (x := ⟨10, .ptr, (.cells #[.int .i64 0, .int .i64 0, .int .i64 0, .int .i64 0, .int .i64 0, .int .i64 0, .int .i64 0] 91), 11, (.cells #[.int .i64 0, .int .i64 0, .int .i64 0, .int .i64 0, .int .i64 0, .int .i64 0, .int .i64 0] 91)⟩) (o := (.cells #[.int .i64 0, .int .i64 0, .int .i64 0, .int .i64 0, .int .i64 0, .int .i64 0, .int .i64 0] 91)) (by simp) rfl rfl
      replace gx : Blk _ _ _ _ := gx
      clear hD
      try simp only [List.drop_succ_cons, List.drop_zero]
      replace g6 : w'.cell? _ = _ := z_g6.out w' hb
      clear z_x0 z_x1 z_x2 z_x3 z_g6
      have hWge := hB.size
      clear x0 x1 x2 x3
      replace hk := hk.below hb hk.lt
      replace hD := hD.below hb
      replace hB := hB.trans (hb.mono hB.size)
      clear hb hok hc0
      obtain ⟨W, rfl⟩ : ∃ W : World, W = w' := ⟨_, rfl⟩
      have x0 := hk.cell_ 0 rfl
      have x1 := hk.cell_ 1 rfl
      have x2 := hk.cell_ 2 rfl
      have x3 := hk.cell_ 3 rfl
      have a0 := gx.cell_ 0 rfl
      have a1 := gx.cell_ 1 rfl
      have a2 := gx.cell_ 2 rfl
      have a3 := gx.cell_ 3 rfl
      have a4 := gx.cell_ 4 rfl
      have a5 := gx.cell_ 5 rfl
      have a6 := gx.cell_ 6 rfl
      have g0 := hD.blk.cell_ 0 rfl
      have g1 := hD.blk.cell_ 1 rfl
      have g2 := hD.blk.cell_ 2 rfl
      have g3 := hD.blk.cell_ 3 rfl
      have g4 := hD.blk.cell_ 4 rfl
      have g5 := hD.blk.cell_ 5 rfl
      have HSW := hS.on hB
      go_wp2_with fail
      refine wp_region_quiet (C := fun w' => ∃ u : Since W, w' = u.w) (by kernel_rfl) (by kernel_rfl) (Since.start W) ?_
      dsimp only
      have y_x0 := Since.cell x0
      have y_x1 := Since.cell x1
      have y_x2 := Since.cell x2
      have y_x3 := Since.cell x3
      have y_a0 := Since.cell a0
      have y_a1 := Since.cell a1
      have y_a2 := Since.cell a2
      have y_a3 := Since.cell a3
      have y_a4 := Since.cell a4
      have y_a5 := Since.cell a5
      have y_a6 := Since.cell a6
      have y_g0 := Since.cell g0
      have y_g1 := Since.cell g1
      have y_g2 := Since.cell g2
      have y_g3 := Since.cell g3
      have y_g4 := Since.cell g4
      have y_g5 := Since.cell g5
      clear x0 x1 x2 x3 a0 a1 a2 a3 a4 a5 a6
      repeat (go_big_quiet_step ((go_at_call 51; exact Since.calls (next_any s t x.mi _ (HSW.on (Since.h _)) hv ht0 (by omega) x1 x2))))
      refine wpQuiet_nil ?_
      rintro W ⟨⟨_, hb⟩, rfl⟩
      try dsimp only at hb ⊢
      replace g0 : W.cell? _ = _ := y_g0 ⟨W, hb⟩
      replace g1 : W.cell? _ = _ := y_g1 ⟨W, hb⟩
      replace g2 : W.cell? _ = _ := y_g2 ⟨W, hb⟩
      replace g3 : W.cell? _ = _ := y_g3 ⟨W, hb⟩
      replace g4 : W.cell? _ = _ := y_g4 ⟨W, hb⟩
      replace g5 : W.cell? _ = _ := y_g5 ⟨W, hb⟩
      clear y_x0 y_x1 y_x2 y_x3 y_a0 y_a1 y_a2 y_a3 y_a4 y_a5 y_a6 y_g0 y_g1 y_g2 y_g3 y_g4 y_g5
      replace hk := hk.below hb hk.lt
      replace hD := hD.below hb
      replace gx := gx.below hb gx.lt
      replace hB := hB.trans (hb.mono hB.size)
      clear hb
      have x0 := hk.cell_ 0 rfl
      have x1 := hk.cell_ 1 rfl
      have x2 := hk.cell_ 2 rfl
      have x3 := hk.cell_ 3 rfl
      have a0 := gx.cell_ 0 rfl
      have a1 := gx.cell_ 1 rfl
      have a2 := gx.cell_ 2 rfl
      have a3 := gx.cell_ 3 rfl
      have a4 := gx.cell_ 4 rfl
      have a5 := gx.cell_ 5 rfl
      have a6 := gx.cell_ 6 rfl
      go_wp2_with fail
      go_ret
      exact ⟨ret_int HE2.out.symm, hB⟩
  | some b =>
    have HL : Hid (∀ w', Below W.heap.size W w' → (Instr.lookup 81 (.map (some mb)) (.int .i64 x.m) true).run Try.prog w' = .ok (.tuple #[.agg #[.int .i64 b.j, .int .i64 b.k, .int .i64 b.t, .int .i64 b.x.m, .int .i64 b.x.mi, .int .i64 b.x.c, .int .i64 b.x.d], .bool true]) w') := fun w' hb =>
      (hD.below hb).map.look_yes Try.underlying81 Try.underlying3 (by rw [look_kvA, hl]; rfl) true
    have HE2 : Hid (earlF s.p D j x = nextF s.p (max t (roomF s.p b x.c)) x.mi) := by show _ = _; rw [HE.out, hl]
    have hfb := HF.out b hl
    clear hl
    obtain ⟨r0, r1⟩ := room_bd' hv hfb (c := x.c)
    go_wp2_with fail
    have z_x0 := hide (fun w' (hb : Below W.heap.size W w') => Since.later hb x0)
    have z_x1 := hide (fun w' (hb : Below W.heap.size W w') => Since.later hb x1)
    have z_x2 := hide (fun w' (hb : Below W.heap.size W w') => Since.later hb x2)
    have z_x3 := hide (fun w' (hb : Below W.heap.size W w') => Since.later hb x3)
    have z_g6 := hide (fun w' (hb : Below W.heap.size W w') => Since.later hb g6)
    have hok : FldOk W ([⟨10, .ptr, (.cells #[.int .i64 0, .int .i64 0, .int .i64 0, .int .i64 0, .int .i64 0, .int .i64 0, .int .i64 0] 91), 11, (.cells #[.int .i64 b.j, .int .i64 b.k, .int .i64 b.t, .int .i64 b.x.m, .int .i64 b.x.mi, .int .i64 b.x.c, .int .i64 b.x.d] 91)⟩]) [] := FldOk.nil_
    refine wp_region_both 12 [0, 1, 2, 3, 4, 5, 6, 7, 8, 9] [10, 11] [⟨10, .ptr, (.cells #[.int .i64 0, .int .i64 0, .int .i64 0, .int .i64 0, .int .i64 0, .int .i64 0, .int .i64 0] 91), 11, (.cells #[.int .i64 b.j, .int .i64 b.k, .int .i64 b.t, .int .i64 b.x.m, .int .i64 b.x.mi, .int .i64 b.x.c, .int .i64 b.x.d] 91)⟩] [] (fun f hf => by cases hf) (by kernel_rfl) (by kernel_rfl) (by kernel_rfl) (by kernel_rfl) (by kernel_rfl) (by simp) ?_
    apply Exists.intro
    refine ⟨fun W1 hc0 => ?_, ?_⟩
    · have hb := hc0.nil_
      have y_x0 := Since.cell (z_x0.out W1 hb)
      have y_x1 := Since.cell (z_x1.out W1 hb)
      have y_x2 := Since.cell (z_x2.out W1 hb)
      have y_x3 := Since.cell (z_x3.out W1 hb)
      have y_g6 := Since.cell (z_g6.out W1 hb)
      have y_HL := fun u : Since W1 => HL.out u.w (hb.trans (u.h.mono hb.size))
      replace hk := hk.below hb hk.lt
      replace hD := hD.below hb
      replace hB := hB.trans (hb.mono hB.size)
      dsimp only [pick, List.filterMap, List.getElem?_cons_succ, List.getElem?_cons_zero]
      repeat (go_big_quiet_step ((fail)))
      exact wpQuiet_nil rfl
    · refine ownWalk_alloc ⟨10, .ptr, (.cells #[.int .i64 0, .int .i64 0, .int .i64 0, .int .i64 0, .int .i64 0, .int .i64 0, .int .i64 0] 91), 11, (.cells #[.int .i64 b.j, .int .i64 b.k, .int .i64 b.t, .int .i64 b.x.m, .int .i64 b.x.mi, .int .i64 b.x.c, .int .i64 b.x.d] 91)⟩ hok (by kernel_rfl) rfl rfl rfl rfl (fun _ => rfl) (by simp) (by simp) (fun h => absurd h (by simp)) ?_
      intro gxb
      simp only [Shape.val, List.setIfInBounds_toArray, List.set_cons_succ, List.set_cons_zero]
      refine ownWalk_fill (cs := #[.int .i64 0, .int .i64 0, .int .i64 0, .int .i64 0, .int .i64 0, .int .i64 0, .int .i64 0]) (cs' := #[.int .i64 b.j, .int .i64 b.k, .int .i64 b.t, .int .i64 b.x.m, .int .i64 b.x.mi, .int .i64 b.x.c, .int .i64 b.x.d]) ⟨10, .ptr, (.cells #[.int .i64 0, .int .i64 0, .int .i64 0, .int .i64 0, .int .i64 0, .int .i64 0, .int .i64 0] 91), 11, (.cells #[.int .i64 b.j, .int .i64 b.k, .int .i64 b.t, .int .i64 b.x.m, .int .i64 b.x.mi, .int .i64 b.x.c, .int .i64 b.x.d] 91)⟩ hok (by kernel_rfl) rfl rfl rfl rfl rfl rfl rfl rfl (by kernel_rfl) rfl (by simp [Value.oneCell']) rfl rfl (by simp) (by simp) (by simp) rfl ?_ (by simp)
      refine ownWalk_nil ?_
      intro w' hc0 hD
      have hb := hc0.nil_
      obtain ⟨gxge, gx⟩ := hD.box.get (x := ⟨10, .ptr, (.cells #[.int .i64 0, .int .i64 0, .int .i64 0, .int .i64 0, .int .i64 0, .int .i64 0, .int .i64 0] 91), 11, (.cells #[.int .i64 b.j, .int .i64 b.k, .int .i64 b.t, .int .i64 b.x.m, .int .i64 b.x.mi, .int .i64 b.x.c, .int .i64 b.x.d] 91)⟩) (o := (.cells #[.int .i64 b.j, .int .i64 b.k, .int .i64 b.t, .int .i64 b.x.m, .int .i64 b.x.mi, .int .i64 b.x.c, .int .i64 b.x.d] 91)) (by simp) rfl rfl
      replace gx : Blk _ _ _ _ := gx
      clear hD
      try simp only [List.drop_succ_cons, List.drop_zero]
      replace g6 : w'.cell? _ = _ := z_g6.out w' hb
      clear z_x0 z_x1 z_x2 z_x3 z_g6
      have hWge := hB.size
      clear x0 x1 x2 x3
      replace hk := hk.below hb hk.lt
      replace hD := hD.below hb
      replace hB := hB.trans (hb.mono hB.size)
      clear hb hok hc0
      obtain ⟨W, rfl⟩ : ∃ W : World, W = w' := ⟨_, rfl⟩
      have x0 := hk.cell_ 0 rfl
      have x1 := hk.cell_ 1 rfl
      have x2 := hk.cell_ 2 rfl
      have x3 := hk.cell_ 3 rfl
      have a0 := gx.cell_ 0 rfl
      have a1 := gx.cell_ 1 rfl
      have a2 := gx.cell_ 2 rfl
      have a3 := gx.cell_ 3 rfl
      have a4 := gx.cell_ 4 rfl
      have a5 := gx.cell_ 5 rfl
      have a6 := gx.cell_ 6 rfl
      have g0 := hD.blk.cell_ 0 rfl
      have g1 := hD.blk.cell_ 1 rfl
      have g2 := hD.blk.cell_ 2 rfl
      have g3 := hD.blk.cell_ 3 rfl
      have g4 := hD.blk.cell_ 4 rfl
      have g5 := hD.blk.cell_ 5 rfl
      have HSW := hS.on hB
      go_wp2_with fail
      refine wp_region_quiet (C := fun w' => ∃ u : Since W, w' = u.w) (by kernel_rfl) (by kernel_rfl) (Since.start W) ?_
      dsimp only
      have y_x0 := Since.cell x0
      have y_x1 := Since.cell x1
      have y_x2 := Since.cell x2
      have y_x3 := Since.cell x3
      have y_a0 := Since.cell a0
      have y_a1 := Since.cell a1
      have y_a2 := Since.cell a2
      have y_a3 := Since.cell a3
      have y_a4 := Since.cell a4
      have y_a5 := Since.cell a5
      have y_a6 := Since.cell a6
      have y_g0 := Since.cell g0
      have y_g1 := Since.cell g1
      have y_g2 := Since.cell g2
      have y_g3 := Since.cell g3
      have y_g4 := Since.cell g4
      have y_g5 := Since.cell g5
      clear x0 x1 x2 x3 a0 a1 a2 a3 a4 a5 a6
      repeat (go_big_quiet_step ((go_at_call 77; exact Since.calls (room_any s b x.c _ (HSW.on (Since.h _)) hv hfb))))
      refine wpQuiet_nil ?_
      rintro W ⟨⟨_, hb⟩, rfl⟩
      try dsimp only at hb ⊢
      replace g0 : W.cell? _ = _ := y_g0 ⟨W, hb⟩
      replace g1 : W.cell? _ = _ := y_g1 ⟨W, hb⟩
      replace g2 : W.cell? _ = _ := y_g2 ⟨W, hb⟩
      replace g3 : W.cell? _ = _ := y_g3 ⟨W, hb⟩
      replace g4 : W.cell? _ = _ := y_g4 ⟨W, hb⟩
      replace g5 : W.cell? _ = _ := y_g5 ⟨W, hb⟩
      clear y_x0 y_x1 y_x2 y_x3 y_a0 y_a1 y_a2 y_a3 y_a4 y_a5 y_a6 y_g0 y_g1 y_g2 y_g3 y_g4 y_g5
      replace hk := hk.below hb hk.lt
      replace hD := hD.below hb
      replace gx := gx.below hb gx.lt
      replace hB := hB.trans (hb.mono hB.size)
      clear hb
      have x0 := hk.cell_ 0 rfl
      have x1 := hk.cell_ 1 rfl
      have x2 := hk.cell_ 2 rfl
      have x3 := hk.cell_ 3 rfl
      have a0 := gx.cell_ 0 rfl
      have a1 := gx.cell_ 1 rfl
      have a2 := gx.cell_ 2 rfl
      have a3 := gx.cell_ 3 rfl
      have a4 := gx.cell_ 4 rfl
      have a5 := gx.cell_ 5 rfl
      have a6 := gx.cell_ 6 rfl
      by_cases hmx : t < roomF s.p b x.c
      · have hmx1 : decide (t < roomF s.p b x.c) = true := decide_eq_true hmx
        have hmx2 : t ≤ roomF s.p b x.c := by omega
        have HE3 : Hid (earlF s.p D j x = nextF s.p (roomF s.p b x.c) x.mi) := by show _ = _; rw [HE2.out, Int.max_eq_right hmx2]
        go_wp2_with fail
        have HSW2 := hS.on hB
        go_wp2_with fail
        refine wp_region_quiet (C := fun w' => ∃ u : Since W, w' = u.w) (by kernel_rfl) (by kernel_rfl) (Since.start W) ?_
        dsimp only
        have y_x0 := Since.cell x0
        have y_x1 := Since.cell x1
        have y_x2 := Since.cell x2
        have y_x3 := Since.cell x3
        have y_a0 := Since.cell a0
        have y_a1 := Since.cell a1
        have y_a2 := Since.cell a2
        have y_a3 := Since.cell a3
        have y_a4 := Since.cell a4
        have y_a5 := Since.cell a5
        have y_a6 := Since.cell a6
        have y_g0 := Since.cell g0
        have y_g1 := Since.cell g1
        have y_g2 := Since.cell g2
        have y_g3 := Since.cell g3
        have y_g4 := Since.cell g4
        have y_g5 := Since.cell g5
        clear x0 x1 x2 x3 a0 a1 a2 a3 a4 a5 a6
        repeat (go_big_quiet_step ((go_at_call 51; exact Since.calls (next_any s (roomF s.p b x.c) x.mi _ (HSW2.on (Since.h _)) hv (by omega) (by omega) x1 x2))))
        refine wpQuiet_nil ?_
        rintro W ⟨⟨_, hb⟩, rfl⟩
        try dsimp only at hb ⊢
        replace g0 : W.cell? _ = _ := y_g0 ⟨W, hb⟩
        replace g1 : W.cell? _ = _ := y_g1 ⟨W, hb⟩
        replace g2 : W.cell? _ = _ := y_g2 ⟨W, hb⟩
        replace g3 : W.cell? _ = _ := y_g3 ⟨W, hb⟩
        replace g4 : W.cell? _ = _ := y_g4 ⟨W, hb⟩
        replace g5 : W.cell? _ = _ := y_g5 ⟨W, hb⟩
        clear y_x0 y_x1 y_x2 y_x3 y_a0 y_a1 y_a2 y_a3 y_a4 y_a5 y_a6 y_g0 y_g1 y_g2 y_g3 y_g4 y_g5
        replace hk := hk.below hb hk.lt
        replace hD := hD.below hb
        replace gx := gx.below hb gx.lt
        replace hB := hB.trans (hb.mono hB.size)
        clear hb
        have x0 := hk.cell_ 0 rfl
        have x1 := hk.cell_ 1 rfl
        have x2 := hk.cell_ 2 rfl
        have x3 := hk.cell_ 3 rfl
        have a0 := gx.cell_ 0 rfl
        have a1 := gx.cell_ 1 rfl
        have a2 := gx.cell_ 2 rfl
        have a3 := gx.cell_ 3 rfl
        have a4 := gx.cell_ 4 rfl
        have a5 := gx.cell_ 5 rfl
        have a6 := gx.cell_ 6 rfl
        go_wp2_with fail
        go_ret
        exact ⟨ret_int HE3.out.symm, hB⟩
      · have hmx1 : decide (t < roomF s.p b x.c) = false := decide_eq_false hmx
        have hmx2 : roomF s.p b x.c ≤ t := by omega
        have HE3 : Hid (earlF s.p D j x = nextF s.p t x.mi) := by show _ = _; rw [HE2.out, Int.max_eq_left hmx2]
        go_wp2_with fail
        have HSW2 := hS.on hB
        go_wp2_with fail
        refine wp_region_quiet (C := fun w' => ∃ u : Since W, w' = u.w) (by kernel_rfl) (by kernel_rfl) (Since.start W) ?_
        dsimp only
        have y_x0 := Since.cell x0
        have y_x1 := Since.cell x1
        have y_x2 := Since.cell x2
        have y_x3 := Since.cell x3
        have y_a0 := Since.cell a0
        have y_a1 := Since.cell a1
        have y_a2 := Since.cell a2
        have y_a3 := Since.cell a3
        have y_a4 := Since.cell a4
        have y_a5 := Since.cell a5
        have y_a6 := Since.cell a6
        have y_g0 := Since.cell g0
        have y_g1 := Since.cell g1
        have y_g2 := Since.cell g2
        have y_g3 := Since.cell g3
        have y_g4 := Since.cell g4
        have y_g5 := Since.cell g5
        clear x0 x1 x2 x3 a0 a1 a2 a3 a4 a5 a6
        repeat (go_big_quiet_step ((go_at_call 51; exact Since.calls (next_any s t x.mi _ (HSW2.on (Since.h _)) hv (by omega) (by omega) x1 x2))))
        refine wpQuiet_nil ?_
        rintro W ⟨⟨_, hb⟩, rfl⟩
        try dsimp only at hb ⊢
        replace g0 : W.cell? _ = _ := y_g0 ⟨W, hb⟩
        replace g1 : W.cell? _ = _ := y_g1 ⟨W, hb⟩
        replace g2 : W.cell? _ = _ := y_g2 ⟨W, hb⟩
        replace g3 : W.cell? _ = _ := y_g3 ⟨W, hb⟩
        replace g4 : W.cell? _ = _ := y_g4 ⟨W, hb⟩
        replace g5 : W.cell? _ = _ := y_g5 ⟨W, hb⟩
        clear y_x0 y_x1 y_x2 y_x3 y_a0 y_a1 y_a2 y_a3 y_a4 y_a5 y_a6 y_g0 y_g1 y_g2 y_g3 y_g4 y_g5
        replace hk := hk.below hb hk.lt
        replace hD := hD.below hb
        replace gx := gx.below hb gx.lt
        replace hB := hB.trans (hb.mono hB.size)
        clear hb
        have x0 := hk.cell_ 0 rfl
        have x1 := hk.cell_ 1 rfl
        have x2 := hk.cell_ 2 rfl
        have x3 := hk.cell_ 3 rfl
        have a0 := gx.cell_ 0 rfl
        have a1 := gx.cell_ 1 rfl
        have a2 := gx.cell_ 2 rfl
        have a3 := gx.cell_ 3 rfl
        have a4 := gx.cell_ 4 rfl
        have a5 := gx.cell_ 5 rfl
        have a6 := gx.cell_ 6 rfl
        go_wp2_with fail
        go_ret
        exact ⟨ret_int HE3.out.symm, hB⟩
theorem earliest_is (B g mb bo bp : Nat) (brs : List Nat) (s : Sh) (D : Desk) (j : Nat) (x : Step) (t v : Int) (w : World) (hS : ShAt w w.heap.size s) (hv : VShop s.p) (hD : DeskAt B w g mb bo bp brs s D)
    (hj : D.on[j]? = some t) (ht0 : 0 ≤ t) (ht1 : t ≤ 1000000000) (hfit : ∀ b, look D.last x.m = some b → AtFit s.p b) (x1 : 1 ≤ x.mi) (x2 : x.mi ≤ s.p.cl - s.p.op) (h : earlF s.p D j x = v) :
    Calls Try.prog 61 #[.pointer (some ⟨g, 0, none⟩), .int .i64 j, .agg #[.int .i64 x.m, .int .i64 x.mi, .int .i64 x.c, .int .i64 x.d]] w fun e w' => e = .returned (.int .i64 v) ∧ Below w.heap.size w w' := by
  rw [← h]; exact earliest_any B g mb bo bp brs s D j x t w hS hv hD hj ht0 ht1 hfit x1 x2
def PutPost (B g mb bo bp : Nat) (brs : List Nat) (s : Sh) (D : Desk) (w : World) (e : Ending) (w' : World) : Prop := e = .returned (.tuple #[]) ∧ DeskAt B w' g mb bo bp brs s D ∧ Chg (OfDesk mb bo brs) w w'
set_option maxRecDepth 100000 in
set_option maxHeartbeats 2000000 in
theorem put_any (B g mb bo bp : Nat) (brs : List Nat) (s : Sh) (D : Desk) (j k : Nat) (t : Int) (st : List Step) (x : Step) (l : List Int) (w : World) (hS : ShAt w w.heap.size s) (hD : DeskAt B w g mb bo bp brs s D)
    (hj : s.p.jobs[j]? = some st) (hx : st[k]? = some x) (hl : D.plan[j]? = some l) (hk : k < l.length) (hon : j < D.on.length) (ht0 : 0 ≤ t) (ht1 : t ≤ 1000000000) (hf : AtFit s.p ⟨j, k, t, x⟩) (hb1 : s.p.jobs.length ≤ 1000) (hb2 : st.length ≤ 1000) :
    Calls Try.prog 62 #[.pointer (some ⟨g, 0, none⟩), .int .i64 j, .int .i64 k, .int .i64 t] w (PutPost B g mb bo bp brs s (D.put ⟨j, k, t, x⟩) w) := by
  obtain ⟨b, off, A', c', hA, hb, hc, hSl⟩ := job_at hS.jobs hj
  obtain ⟨b2, off2, hA2, hb2', d0, d1, d2, d3⟩ := hSl.at4_ hx
  have i1 : (j : Int) < (s.p.jobs.length : Int) := by have := (List.getElem?_eq_some_iff.1 hj).1; omega
  have i2 : (k : Int) < (st.length : Int) := by have := (List.getElem?_eq_some_iff.1 hx).1; omega
  obtain ⟨br, hbr, hrow, hcell, hbrB⟩ := hD.row hl
  have i3 : (j : Int) < (D.plan.length : Int) := by have := (List.getElem?_eq_some_iff.1 hl).1; omega
  have i4 : (k : Int) < (l.length : Int) := by omega
  have i5 : (j : Int) < (D.on.length : Int) := by omega
  obtain ⟨_, _, f1, f2, f3, f4, f5, f6⟩ := hf
  dsimp only at f1 f2 f3 f4 f5 f6
  have HJ := hide (And.intro hj (And.intro hx (And.intro hl (And.intro hbr (And.intro hrow hcell)))))
  clear hj hx hl hbr hrow hcell
  subst hA2
  have HA := hide hA
  clear hA
  have hka := Blk.new w 91 #[.int .i64 j, .int .i64 k, .int .i64 t, .int .i64 x.m, .int .i64 x.mi, .int .i64 x.c, .int .i64 x.d]
  have hC := (Chg.refl (OfDesk mb bo brs) w).alloc (.cells #[.int .i64 j, .int .i64 k, .int .i64 t, .int .i64 x.m, .int .i64 x.mi, .int .i64 x.c, .int .i64 x.d] 91)
  have hD0 := hD
  replace hD := hD.alloc (.cells #[.int .i64 j, .int .i64 k, .int .i64 t, .int .i64 x.m, .int .i64 x.mi, .int .i64 x.c, .int .i64 x.d] 91)
  have hwb : ∀ q ∈ g :: mb :: bo :: bp :: brs, w.heap.size ≠ q := fun q hq => by have := hD0.lts q hq; omega
  have HWB := hide hwb
  clear hwb
  have g50 : w.cell? ⟨g, 5, none⟩ = some (.slice (some ⟨b, off, none⟩) s.p.jobs.length s.cJ) := by rw [← HA.out]; exact hD0.blk.cell_ 5 rfl
  go_enter Try.func62, Try.ntmps62
  go_wp2_with fail
  clear g50 d0 d1 d2 d3 hc
  clear hD0
  generalize w.alloc (.cells #[.int .i64 j, .int .i64 k, .int .i64 t, .int .i64 x.m, .int .i64 x.mi, .int .i64 x.c, .int .i64 x.d] 91) = W at *
  have g6 := hD.blk.cell_ 6 rfl
  go_wp2_with fail
  have a0 := hka.cell_ 0 rfl
  have a1 := hka.cell_ 1 rfl
  have a2 := hka.cell_ 2 rfl
  have a3 := hka.cell_ 3 rfl
  have a4 := hka.cell_ 4 rfl
  have a5 := hka.cell_ 5 rfl
  have a6 := hka.cell_ 6 rfl
  refine wp_region_quiet_tail (C := fun w' => ∃ u : Since W, w' = u.w) 8 (by kernel_rfl) (by kernel_rfl) (Since.start W) ?_
  simp only [List.take_succ_cons, List.take_zero, List.drop_succ_cons, List.drop_zero]
  have y_a0 := Since.cell a0
  have y_a1 := Since.cell a1
  have y_a2 := Since.cell a2
  have y_a3 := Since.cell a3
  have y_a4 := Since.cell a4
  have y_a5 := Since.cell a5
  have y_a6 := Since.cell a6
  have y_g6 := Since.cell g6
  clear a0 a1 a2 a3 a4 a5 a6
  repeat (go_big_quiet_step ((fail)))
  refine wpQuiet_nil ?_
  rintro W ⟨⟨_, hb⟩, rfl⟩
  try dsimp only at hb ⊢
  replace g6 : W.cell? _ = _ := y_g6 ⟨W, hb⟩
  clear y_a0 y_a1 y_a2 y_a3 y_a4 y_a5 y_a6 y_g6
  replace hka := hka.below hb hka.lt
  replace hD := hD.below hb
  replace hC := hC.trans (.of_below hb)
  clear hb
  have a0 := hka.cell_ 0 rfl
  have a1 := hka.cell_ 1 rfl
  have a2 := hka.cell_ 2 rfl
  have a3 := hka.cell_ 3 rfl
  have a4 := hka.cell_ 4 rfl
  have a5 := hka.cell_ 5 rfl
  have a6 := hka.cell_ 6 rfl
  refine wpList_put_im rfl rfl _ _ _ _ rfl _ _ Try.underlying81 Try.underlying3 mb rfl hD.map x.m (atV ⟨j, k, t, x⟩) rfl rfl ?_
  intro W2 hM hg
  have hcm : Chg (fun k => k = mb) W W2 := .of_grown hg rfl
  replace hC := hC.trans' hcm (fun q _ hq => .inl hq)
  replace hka := hka.chg1 hcm (HWB.out mb (by simp))
  replace hD := hD.setMap hM hcm
  clear hcm
  clear hM hg g6
  obtain ⟨W, rfl⟩ : ∃ W : World, W = W2 := ⟨_, rfl⟩
  have a0 := hka.cell_ 0 rfl
  have a1 := hka.cell_ 1 rfl
  have a2 := hka.cell_ 2 rfl
  have a3 := hka.cell_ 3 rfl
  have a4 := hka.cell_ 4 rfl
  have a5 := hka.cell_ 5 rfl
  have a6 := hka.cell_ 6 rfl
  have g7 := hD.blk.cell_ 7 rfl
  go_wp2_with fail
  refine wp_region_quiet_tail (C := fun w' => ∃ u : Since W, w' = u.w) 8 (by kernel_rfl) (by kernel_rfl) (Since.start W) ?_
  simp only [List.take_succ_cons, List.take_zero, List.drop_succ_cons, List.drop_zero]
  have y_a0 := Since.cell a0
  have y_a1 := Since.cell a1
  have y_a2 := Since.cell a2
  have y_a3 := Since.cell a3
  have y_a4 := Since.cell a4
  have y_a5 := Since.cell a5
  have y_a6 := Since.cell a6
  have y_g7 := Since.cell g7
  clear a0 a1 a2 a3 a4 a5 a6
  repeat (go_big_quiet_step ((go_at_call 78; exact Since.calls (dry_any ⟨j, k, t, x⟩ _ ⟨by show _ ≤ t; omega, by show t ≤ _; omega⟩ ⟨f1, by show x.mi ≤ _; omega⟩ ⟨f3, by show x.d ≤ _; omega⟩))))
  refine wpQuiet_nil ?_
  rintro W ⟨⟨_, hb⟩, rfl⟩
  try dsimp only at hb ⊢
  replace g7 : W.cell? _ = _ := y_g7 ⟨W, hb⟩
  clear y_a0 y_a1 y_a2 y_a3 y_a4 y_a5 y_a6 y_g7
  replace hka := hka.below hb hka.lt
  replace hD := hD.below hb
  replace hC := hC.trans (.of_below hb)
  clear hb
  have a0 := hka.cell_ 0 rfl
  have a1 := hka.cell_ 1 rfl
  have a2 := hka.cell_ 2 rfl
  have a3 := hka.cell_ 3 rfl
  have a4 := hka.cell_ 4 rfl
  have a5 := hka.cell_ 5 rfl
  have a6 := hka.cell_ 6 rfl
  refine wpList_store_at rfl 3 _ _ rfl (.int .i64 (At.dry ⟨j, k, t, x⟩)) hD.on rfl rfl (by kernel_rfl) rfl (by rw [ints_size]; omega) rfl ?_
  intro W2 hO hc3
  replace hC := hC.trans' hc3 (fun q _ hq => .inr (.inl hq))
  replace hD := hD.setOn hO hc3
  clear hO hc3 g7 hka a0 a1 a2 a3 a4 a5 a6
  obtain ⟨W, rfl⟩ : ∃ W : World, W = W2 := ⟨_, rfl⟩
  have g8 := hD.blk.cell_ 8 rfl
  have hrow := hD.rows j br l HJ.out.2.2.2.1 HJ.out.2.2.1
  have hcell := hD.pl.cell_ j HJ.out.2.2.2.2.2
  dsimp only at g8
  go_wp2_with (refine wpList_store_at rfl 3 _ _ rfl (.int .i64 t) hrow rfl rfl (by kernel_rfl) rfl (by rw [ints_size]; omega) rfl ?_; intro W3 hR hc4)
  exact bodyPost_ret (v := .tuple #[]) (results_none rfl _ _ _) rfl ⟨rfl, hD.setRow HJ.out.2.2.2.1 HJ.out.2.2.1 hR hc4, hC.trans' hc4 (fun q _ hq => .inr (.inr (hq ▸ List.mem_of_getElem? HJ.out.2.2.2.1)))⟩
end Go.Proofs.Ytcpnfcnobnjhdaa

/- The desk of package shop: a new one. -/
namespace Go.Proofs.Ytcpnfcnobnjhdaa
open Go.RowKit
def desk0 (p : Shop) : Desk := ⟨[], List.replicate p.jobs.length 0, p.jobs.map fun l => List.replicate l.length 0⟩
def NewDesk (s : Sh) (w : World) (e : Ending) (w' : World) : Prop := ∃ g mb bo bp brs, e = .returned (.pointer (some ⟨g, 0, none⟩)) ∧ Below w.heap.size w w' ∧ DeskAt w.heap.size w' g mb bo bp brs s (desk0 s.p)
/-- the rows that have been made so far -/
def rowK (brs : List Nat) (zs : List (List Int)) (i : Nat) : Value := match brs[i]?, zs[i]? with
  | some b, some l => rowV b l
  | _, _ => .slice none 0 0
def rowsK (brs : List Nat) (zs : List (List Int)) : Array Value := ((List.range zs.length).map (rowK brs zs)).toArray
theorem rowsK_size (brs : List Nat) (zs : List (List Int)) : (rowsK brs zs).size = zs.length := by simp [rowsK]
theorem rowsK_nil (zs : List (List Int)) : rowsK [] zs = (List.replicate zs.length (.slice none 0 0)).toArray := by
  unfold rowsK
  congr 1
  apply List.ext_getElem?
  intro i
  rw [List.getElem?_map]
  by_cases h : i < zs.length <;> simp [h, rowK]
theorem rowsK_set {brs : List Nat} {zs : List (List Int)} {b : Nat} {l : List Int} (hl : zs[brs.length]? = some l) : (rowsK brs zs).setIfInBounds brs.length (rowV b l) = rowsK (brs ++ [b]) zs := by
  have hlt := (List.getElem?_eq_some_iff.1 hl).1
  unfold rowsK
  rw [List.setIfInBounds_toArray]
  congr 1
  apply List.ext_getElem?
  intro i
  rw [List.getElem?_set, List.getElem?_map, List.getElem?_map]
  by_cases hi : brs.length = i
  · subst hi
    have hz := (List.getElem?_eq_some_iff.1 hl).2
    simp [hlt, rowK, hz]
  · rw [if_neg hi]
    by_cases h : i < zs.length
    · simp only [List.getElem?_range h, Option.map_some]
      congr 1
      unfold rowK
      by_cases h2 : i < brs.length
      · rw [List.getElem?_append_left h2]
      · rw [List.getElem?_append_right (by omega), show brs[i]? = none from List.getElem?_eq_none (by omega), show [b][i - brs.length]? = none from List.getElem?_eq_none (by simp only [List.length_cons, List.length_nil]; omega)]
    · simp [h]
theorem rowsK_all {brs : List Nat} {zs : List (List Int)} (h : brs.length = zs.length) : rowsK brs zs = rowsV brs zs := by
  unfold rowsK rowsV
  congr 1
  apply List.ext_getElem?
  intro i
  rw [List.getElem?_map, List.getElem?_zipWith]
  by_cases hi : i < zs.length
  · have h1 : brs[i]? = some (brs[i]'(by omega)) := List.getElem?_eq_getElem _
    have h2 : zs[i]? = some zs[i] := List.getElem?_eq_getElem hi
    simp [List.getElem?_range hi, rowK, h1, h2]
  · simp [hi]
theorem ints_zero (n : Nat) : (List.replicate n (Value.int .i64 0)).toArray = ints (List.replicate n 0) := by simp [ints, intV]
def RowsOk (w : World) (brs : List Nat) (zs : List (List Int)) : Prop := ∀ (i b : Nat) l, brs[i]? = some b → zs[i]? = some l → Blk w b 3 (ints l)
theorem RowsOk.below {w w' : World} {brs : List Nat} {zs : List (List Int)} (h : RowsOk w brs zs) (hb : Below w.heap.size w w') : RowsOk w' brs zs := fun i b l h1 h2 => (h i b l h1 h2).below hb (h i b l h1 h2).lt
theorem RowsOk.chg1 {w w' : World} {brs : List Nat} {zs : List (List Int)} {g : Nat} (h : RowsOk w brs zs) (hc : Chg (fun k => k = g) w w') (hn : ∀ b ∈ brs, b ≠ g) : RowsOk w' brs zs := fun i b l h1 h2 => (h i b l h1 h2).chg1 hc (hn b (List.mem_of_getElem? h1))
theorem RowsOk.snoc {w : World} {brs : List Nat} {zs : List (List Int)} {b : Nat} {l : List Int} (h : RowsOk w brs zs) (hl : zs[brs.length]? = some l) (hb : Blk w b 3 (ints l)) : RowsOk w (brs ++ [b]) zs := fun i b' l' h1 h2 => by
  by_cases hi : i < brs.length
  · rw [List.getElem?_append_left hi] at h1; exact h i b' l' h1 h2
  · have hlt := (List.getElem?_eq_some_iff.1 h1).1
    simp at hlt
    obtain rfl : i = brs.length := by omega
    simp at h1
    subst h1
    rw [hl] at h2
    injection h2 with h2
    subst h2
    exact hb
theorem RowsOk.lt {w : World} {brs : List Nat} {zs : List (List Int)} (h : RowsOk w brs zs) (hl : brs.length ≤ zs.length) : ∀ b ∈ brs, b < w.heap.size := fun b hb => by
  obtain ⟨i, hi⟩ := List.getElem?_of_mem hb
  have := (List.getElem?_eq_some_iff.1 hi).1
  exact (h i b _ hi (List.getElem?_eq_getElem (by omega))).lt
def Apart (B gb rmb rob rpb : Nat) (brs : List Nat) : Prop := (gb :: rmb :: rob :: rpb :: brs).Nodup ∧ ∀ b ∈ brs, B < b
theorem Apart.snoc {B gb rmb rob rpb b : Nat} {brs : List Nat} (h : Apart B gb rmb rob rpb brs) (h1 : b ≠ gb ∧ b ≠ rmb ∧ b ≠ rob ∧ b ≠ rpb) (h2 : b ∉ brs) (h3 : B < b) : Apart B gb rmb rob rpb (brs ++ [b]) := by
  obtain ⟨hn, hb⟩ := h
  refine ⟨?_, fun x hx => ?_⟩
  · have : gb :: rmb :: rob :: rpb :: (brs ++ [b]) = (gb :: rmb :: rob :: rpb :: brs) ++ [b] := rfl
    rw [this, List.nodup_append]
    refine ⟨hn, by simp, fun x hx y hy => ?_⟩
    simp at hy
    subst hy
    simp only [List.mem_cons] at hx
    rintro rfl
    rcases hx with hx | hx | hx | hx | hx
    · exact h1.1 hx
    · exact h1.2.1 hx
    · exact h1.2.2.1 hx
    · exact h1.2.2.2 hx
    · exact h2 hx
  · rcases List.mem_append.1 hx with hx | hx
    · exact hb x hx
    · simp at hx; subst hx; exact h3
set_option maxRecDepth 100000 in
set_option maxHeartbeats 2000000 in
theorem newDesk_any (s : Sh) (w : World) (hS : ShAt w w.heap.size s) (hv : VShop s.p) : Calls Try.prog 60 #[.agg #[.int .i64 s.p.op, .int .i64 s.p.cl, .slice s.aH s.p.hol.length s.cH, .int .i64 s.p.mach, .slice s.aS s.p.setup.length s.cS, .slice s.aJ s.p.jobs.length s.cJ]] w (NewDesk s w) := by
  have hjn := hv.jobn
  have MK1 := hide (run_make1 (P := Try.prog) (bytes := 8) (z := .int .i64 0) Try.underlying22 (by kernel_rfl) rfl (by omega))
  have MK2 := hide (run_make1 (P := Try.prog) (bytes := 24) (z := .slice none 0 0) Try.underlying44 (by kernel_rfl) rfl (by omega))
  obtain ⟨p, aH, cH, aS, cS, aJ, cJ⟩ := s
  dsimp only at *
  have hk := Blk.new w 25 #[.int .i64 p.op, .int .i64 p.cl, .slice aH p.hol.length cH, .int .i64 p.mach, .slice aS p.setup.length cS, .slice aJ p.jobs.length cJ]
  have hB := (Below.refl w.heap.size w).alloc (Nat.le_refl _) (.cells #[.int .i64 p.op, .int .i64 p.cl, .slice aH p.hol.length cH, .int .i64 p.mach, .slice aS p.setup.length cS, .slice aJ p.jobs.length cJ] 25)
  go_enter Try.func60, Try.ntmps60
  go_wp2_with fail
  generalize w.alloc (.cells #[.int .i64 p.op, .int .i64 p.cl, .slice aH p.hol.length cH, .int .i64 p.mach, .slice aS p.setup.length cS, .slice aJ p.jobs.length cJ] 25) = W at *
  have c0 := hk.cell_ 0 rfl
  have c1 := hk.cell_ 1 rfl
  have c2 := hk.cell_ 2 rfl
  have c3 := hk.cell_ 3 rfl
  have c4 := hk.cell_ 4 rfl
  have c5 := hk.cell_ 5 rfl
  have lk0 := hk.lt
  go_wp2_with fail
  have z_c0 := hide (fun w' (hb : Below W.heap.size W w') => Since.later hb c0)
  have z_c1 := hide (fun w' (hb : Below W.heap.size W w') => Since.later hb c1)
  have z_c2 := hide (fun w' (hb : Below W.heap.size W w') => Since.later hb c2)
  have z_c3 := hide (fun w' (hb : Below W.heap.size W w') => Since.later hb c3)
  have z_c4 := hide (fun w' (hb : Below W.heap.size W w') => Since.later hb c4)
  have z_c5 := hide (fun w' (hb : Below W.heap.size W w') => Since.later hb c5)
  have hok : FldOk W ([⟨1, .map, (.map #[] 0), 1, (.map #[] 0)⟩, ⟨5, (.slice p.jobs.length p.jobs.length), (.cells (List.replicate p.jobs.length (Value.int .i64 0)).toArray 3), 5, (.cells (List.replicate p.jobs.length (Value.int .i64 0)).toArray 3)⟩, ⟨9, (.slice p.jobs.length p.jobs.length), (.cells (List.replicate p.jobs.length (Value.slice none 0 0)).toArray 22), 9, (.cells (List.replicate p.jobs.length (Value.slice none 0 0)).toArray 22)⟩]) [] := FldOk.nil_
  refine wp_region_both 10 [0, 2, 3, 4, 6, 7, 8] [1, 5, 9] [⟨1, .map, (.map #[] 0), 1, (.map #[] 0)⟩, ⟨5, (.slice p.jobs.length p.jobs.length), (.cells (List.replicate p.jobs.length (Value.int .i64 0)).toArray 3), 5, (.cells (List.replicate p.jobs.length (Value.int .i64 0)).toArray 3)⟩, ⟨9, (.slice p.jobs.length p.jobs.length), (.cells (List.replicate p.jobs.length (Value.slice none 0 0)).toArray 22), 9, (.cells (List.replicate p.jobs.length (Value.slice none 0 0)).toArray 22)⟩] [] (fun f hf => by cases hf) (by kernel_rfl) (by kernel_rfl) (by kernel_rfl) (by kernel_rfl) (by kernel_rfl) (by simp) ?_
  apply Exists.intro
  refine ⟨fun W1 hc0 => ?_, ?_⟩
  · have hb := hc0.nil_
    have y_c0 := Since.cell (z_c0.out W1 hb)
    have y_c1 := Since.cell (z_c1.out W1 hb)
    have y_c2 := Since.cell (z_c2.out W1 hb)
    have y_c3 := Since.cell (z_c3.out W1 hb)
    have y_c4 := Since.cell (z_c4.out W1 hb)
    have y_c5 := Since.cell (z_c5.out W1 hb)
    replace hk := hk.below hb hk.lt
    replace hB := hB.trans (hb.mono hB.size)
    dsimp only [pick, List.filterMap, List.getElem?_cons_succ, List.getElem?_cons_zero]
    repeat (go_big_quiet_step ((fail)))
    exact wpQuiet_nil rfl
  · refine ownWalk_alloc ⟨1, .map, (.map #[] 0), 1, (.map #[] 0)⟩ hok (by kernel_rfl) rfl rfl rfl rfl (fun _ => rfl) (by simp) (by simp) (fun _ => rfl) ?_
    intro rmb
    simp only [Shape.val, List.setIfInBounds_toArray, List.set_cons_succ, List.set_cons_zero]
    refine ownWalk_alloc ⟨5, (.slice p.jobs.length p.jobs.length), (.cells (List.replicate p.jobs.length (Value.int .i64 0)).toArray 3), 5, (.cells (List.replicate p.jobs.length (Value.int .i64 0)).toArray 3)⟩ hok (by kernel_rfl) rfl rfl rfl rfl (fun w => run_exec_make rfl (MK1.out p.jobs.length (by omega) w)) (by simp) (by simp) (fun _ => rfl) ?_
    intro rob
    simp only [Shape.val, List.setIfInBounds_toArray, List.set_cons_succ, List.set_cons_zero]
    refine ownWalk_alloc ⟨9, (.slice p.jobs.length p.jobs.length), (.cells (List.replicate p.jobs.length (Value.slice none 0 0)).toArray 22), 9, (.cells (List.replicate p.jobs.length (Value.slice none 0 0)).toArray 22)⟩ hok (by kernel_rfl) rfl rfl rfl rfl (fun w => run_exec_make rfl (MK2.out p.jobs.length (by omega) w)) (by simp) (by simp) (fun _ => rfl) ?_
    intro rpb
    simp only [Shape.val, List.setIfInBounds_toArray, List.set_cons_succ, List.set_cons_zero]
    refine ownWalk_nil ?_
    intro w' hc0 hD
    have hb := hc0.nil_
    obtain ⟨rmge, rm⟩ := hD.box.get (x := ⟨1, .map, (.map #[] 0), 1, (.map #[] 0)⟩) (o := (.map #[] 0)) (by simp) rfl rfl
    obtain ⟨roge, ro⟩ := hD.box.get (x := ⟨5, (.slice p.jobs.length p.jobs.length), (.cells (List.replicate p.jobs.length (Value.int .i64 0)).toArray 3), 5, (.cells (List.replicate p.jobs.length (Value.int .i64 0)).toArray 3)⟩) (o := (.cells (List.replicate p.jobs.length (Value.int .i64 0)).toArray 3)) (by simp) rfl rfl
    replace ro : Blk _ _ _ _ := ro
    obtain ⟨rpge, rp⟩ := hD.box.get (x := ⟨9, (.slice p.jobs.length p.jobs.length), (.cells (List.replicate p.jobs.length (Value.slice none 0 0)).toArray 22), 9, (.cells (List.replicate p.jobs.length (Value.slice none 0 0)).toArray 22)⟩) (o := (.cells (List.replicate p.jobs.length (Value.slice none 0 0)).toArray 22)) (by simp) rfl rfl
    replace rp : Blk _ _ _ _ := rp
    have rm_ro := hD.box.apart (x := ⟨1, .map, (.map #[] 0), 1, (.map #[] 0)⟩) (y := ⟨5, (.slice p.jobs.length p.jobs.length), (.cells (List.replicate p.jobs.length (Value.int .i64 0)).toArray 3), 5, (.cells (List.replicate p.jobs.length (Value.int .i64 0)).toArray 3)⟩) (by simp) (by simp) (by simp) rfl rfl
    have rm_rp := hD.box.apart (x := ⟨1, .map, (.map #[] 0), 1, (.map #[] 0)⟩) (y := ⟨9, (.slice p.jobs.length p.jobs.length), (.cells (List.replicate p.jobs.length (Value.slice none 0 0)).toArray 22), 9, (.cells (List.replicate p.jobs.length (Value.slice none 0 0)).toArray 22)⟩) (by simp) (by simp) (by simp) rfl rfl
    have ro_rp := hD.box.apart (x := ⟨5, (.slice p.jobs.length p.jobs.length), (.cells (List.replicate p.jobs.length (Value.int .i64 0)).toArray 3), 5, (.cells (List.replicate p.jobs.length (Value.int .i64 0)).toArray 3)⟩) (y := ⟨9, (.slice p.jobs.length p.jobs.length), (.cells (List.replicate p.jobs.length (Value.slice none 0 0)).toArray 22), 9, (.cells (List.replicate p.jobs.length (Value.slice none 0 0)).toArray 22)⟩) (by simp) (by simp) (by simp) rfl rfl
    clear hD
    try simp only [List.drop_succ_cons, List.drop_zero]
    clear z_c0 z_c1 z_c2 z_c3 z_c4 z_c5
    have hWge := hB.size
    clear c0 c1 c2 c3 c4 c5
    replace hk := hk.below hb hk.lt
    replace hB := hB.trans (hb.mono hB.size)
    clear hb hok hc0
    obtain ⟨W, rfl⟩ : ∃ W : World, W = w' := ⟨_, rfl⟩
    have c0 := hk.cell_ 0 rfl
    have c1 := hk.cell_ 1 rfl
    have c2 := hk.cell_ 2 rfl
    have c3 := hk.cell_ 3 rfl
    have c4 := hk.cell_ 4 rfl
    have c5 := hk.cell_ 5 rfl
    have hm : MapOf W rmb [] := ⟨#[], 0, rm, MapKept.stamped_empty 0, by simp, rfl⟩
    rw [ints_zero] at ro
    obtain ⟨zs, hzs⟩ : ∃ zs : List (List Int), zs = p.jobs.map fun l => List.replicate l.length 0 := ⟨_, rfl⟩
    have hzl : zs.length = p.jobs.length := by rw [hzs, List.length_map]
    have hp : Blk W rpb 22 (rowsK [] zs) := by rw [rowsK_nil, hzl]; exact rp
    have HZ := hide (And.intro hzs hzl)
    clear rm rp hzs hzl
    have lm := hm.lt
    have lo := ro.lt
    have lp := hp.lt
    have lk := hk.lt
    have q_c0 := (hk.alloc (.cells #[.int .i64 p.op, .int .i64 p.cl, .slice aH p.hol.length cH, .int .i64 p.mach, .slice aS p.setup.length cS, .slice aJ p.jobs.length cJ, .map (some rmb), .slice (some ⟨rob, 0, none⟩) p.jobs.length p.jobs.length, .slice (some ⟨rpb, 0, none⟩) p.jobs.length p.jobs.length] 83)).cell_ 0 rfl
    have q_c1 := (hk.alloc (.cells #[.int .i64 p.op, .int .i64 p.cl, .slice aH p.hol.length cH, .int .i64 p.mach, .slice aS p.setup.length cS, .slice aJ p.jobs.length cJ, .map (some rmb), .slice (some ⟨rob, 0, none⟩) p.jobs.length p.jobs.length, .slice (some ⟨rpb, 0, none⟩) p.jobs.length p.jobs.length] 83)).cell_ 1 rfl
    have q_c2 := (hk.alloc (.cells #[.int .i64 p.op, .int .i64 p.cl, .slice aH p.hol.length cH, .int .i64 p.mach, .slice aS p.setup.length cS, .slice aJ p.jobs.length cJ, .map (some rmb), .slice (some ⟨rob, 0, none⟩) p.jobs.length p.jobs.length, .slice (some ⟨rpb, 0, none⟩) p.jobs.length p.jobs.length] 83)).cell_ 2 rfl
    have q_c3 := (hk.alloc (.cells #[.int .i64 p.op, .int .i64 p.cl, .slice aH p.hol.length cH, .int .i64 p.mach, .slice aS p.setup.length cS, .slice aJ p.jobs.length cJ, .map (some rmb), .slice (some ⟨rob, 0, none⟩) p.jobs.length p.jobs.length, .slice (some ⟨rpb, 0, none⟩) p.jobs.length p.jobs.length] 83)).cell_ 3 rfl
    have q_c4 := (hk.alloc (.cells #[.int .i64 p.op, .int .i64 p.cl, .slice aH p.hol.length cH, .int .i64 p.mach, .slice aS p.setup.length cS, .slice aJ p.jobs.length cJ, .map (some rmb), .slice (some ⟨rob, 0, none⟩) p.jobs.length p.jobs.length, .slice (some ⟨rpb, 0, none⟩) p.jobs.length p.jobs.length] 83)).cell_ 4 rfl
    have q_c5 := (hk.alloc (.cells #[.int .i64 p.op, .int .i64 p.cl, .slice aH p.hol.length cH, .int .i64 p.mach, .slice aS p.setup.length cS, .slice aJ p.jobs.length cJ, .map (some rmb), .slice (some ⟨rob, 0, none⟩) p.jobs.length p.jobs.length, .slice (some ⟨rpb, 0, none⟩) p.jobs.length p.jobs.length] 83)).cell_ 5 rfl
    go_wp2_with fail
    clear q_c0 q_c1 q_c2 q_c3 q_c4 q_c5
    clear c0 c1 c2 c3 c4 c5
    have hg := Blk.new W 83 #[.int .i64 p.op, .int .i64 p.cl, .slice aH p.hol.length cH, .int .i64 p.mach, .slice aS p.setup.length cS, .slice aJ p.jobs.length cJ, .map (some rmb), .slice (some ⟨rob, 0, none⟩) p.jobs.length p.jobs.length, .slice (some ⟨rpb, 0, none⟩) p.jobs.length p.jobs.length]
    replace hk := hk.alloc (.cells #[.int .i64 p.op, .int .i64 p.cl, .slice aH p.hol.length cH, .int .i64 p.mach, .slice aS p.setup.length cS, .slice aJ p.jobs.length cJ, .map (some rmb), .slice (some ⟨rob, 0, none⟩) p.jobs.length p.jobs.length, .slice (some ⟨rpb, 0, none⟩) p.jobs.length p.jobs.length] 83)
    replace hm := hm.alloc (.cells #[.int .i64 p.op, .int .i64 p.cl, .slice aH p.hol.length cH, .int .i64 p.mach, .slice aS p.setup.length cS, .slice aJ p.jobs.length cJ, .map (some rmb), .slice (some ⟨rob, 0, none⟩) p.jobs.length p.jobs.length, .slice (some ⟨rpb, 0, none⟩) p.jobs.length p.jobs.length] 83)
    replace ro := ro.alloc (.cells #[.int .i64 p.op, .int .i64 p.cl, .slice aH p.hol.length cH, .int .i64 p.mach, .slice aS p.setup.length cS, .slice aJ p.jobs.length cJ, .map (some rmb), .slice (some ⟨rob, 0, none⟩) p.jobs.length p.jobs.length, .slice (some ⟨rpb, 0, none⟩) p.jobs.length p.jobs.length] 83)
    replace hp := hp.alloc (.cells #[.int .i64 p.op, .int .i64 p.cl, .slice aH p.hol.length cH, .int .i64 p.mach, .slice aS p.setup.length cS, .slice aJ p.jobs.length cJ, .map (some rmb), .slice (some ⟨rob, 0, none⟩) p.jobs.length p.jobs.length, .slice (some ⟨rpb, 0, none⟩) p.jobs.length p.jobs.length] 83)
    have hsz_gb : (W.alloc (.cells #[.int .i64 p.op, .int .i64 p.cl, .slice aH p.hol.length cH, .int .i64 p.mach, .slice aS p.setup.length cS, .slice aJ p.jobs.length cJ, .map (some rmb), .slice (some ⟨rob, 0, none⟩) p.jobs.length p.jobs.length, .slice (some ⟨rpb, 0, none⟩) p.jobs.length p.jobs.length] 83)).heap.size = W.heap.size + 1 := by simp
    have gbge := hB.size
    replace hB := hB.alloc hB.size (.cells #[.int .i64 p.op, .int .i64 p.cl, .slice aH p.hol.length cH, .int .i64 p.mach, .slice aS p.setup.length cS, .slice aJ p.jobs.length cJ, .map (some rmb), .slice (some ⟨rob, 0, none⟩) p.jobs.length p.jobs.length, .slice (some ⟨rpb, 0, none⟩) p.jobs.length p.jobs.length] 83)
    generalize hgb : W.heap.size = gb at *
    generalize W.alloc (.cells #[.int .i64 p.op, .int .i64 p.cl, .slice aH p.hol.length cH, .int .i64 p.mach, .slice aS p.setup.length cS, .slice aJ p.jobs.length cJ, .map (some rmb), .slice (some ⟨rob, 0, none⟩) p.jobs.length p.jobs.length, .slice (some ⟨rpb, 0, none⟩) p.jobs.length p.jobs.length] 83) = W at *
    clear hgb
    have c0 := hk.cell_ 0 rfl
    have c1 := hk.cell_ 1 rfl
    have c2 := hk.cell_ 2 rfl
    have c3 := hk.cell_ 3 rfl
    have c4 := hk.cell_ 4 rfl
    have c5 := hk.cell_ 5 rfl
    have g0 := hg.cell_ 0 rfl
    have g1 := hg.cell_ 1 rfl
    have g2 := hg.cell_ 2 rfl
    have g3 := hg.cell_ 3 rfl
    have g4 := hg.cell_ 4 rfl
    have g5 := hg.cell_ 5 rfl
    have g6 := hg.cell_ 6 rfl
    have g7 := hg.cell_ 7 rfl
    have g8 := hg.cell_ 8 rfl
    have hAp : Apart w.heap.size gb rmb rob rpb [] := ⟨by simp; omega, fun b hb => by cases hb⟩
    have hr0 : RowsOk W [] zs := fun i b l h1 _ => by simp at h1
    clear c0 c1 c2 c3 c4 c5 g0 g1 g2 g3 g4 g5 g6 g7 g8
    go_loopw [21] (fun x W => ∃ (k : Nat) (brs : List Nat), x = .int .i64 k ∧ k ≤ p.jobs.length ∧ Hid (brs.length = k) ∧ Blk W rpb 22 (rowsK brs zs) ∧ RowsOk W brs zs ∧ Apart w.heap.size gb rmb rob rpb brs ∧ Blk W w.heap.size 25 #[.int .i64 p.op, .int .i64 p.cl, .slice aH p.hol.length cH, .int .i64 p.mach, .slice aS p.setup.length cS, .slice aJ p.jobs.length cJ] ∧ MapOf W rmb [] ∧ Blk W rob 3 (ints (List.replicate p.jobs.length 0)) ∧ Blk W gb 83 #[.int .i64 p.op, .int .i64 p.cl, .slice aH p.hol.length cH, .int .i64 p.mach, .slice aS p.setup.length cS, .slice aJ p.jobs.length cJ, .map (some rmb), .slice (some ⟨rob, 0, none⟩) p.jobs.length p.jobs.length, .slice (some ⟨rpb, 0, none⟩) p.jobs.length p.jobs.length] ∧ Below w.heap.size w W) (fun x _ => p.jobs.length - (intOf x).toNat)
    case atStart => exact ⟨0, [], rfl, Nat.zero_le _, hide rfl, hp, hr0, hAp, hk, hm, ro, hg, hB⟩
    case round =>
      clear hk hm ro hg hB hp hr0 hAp
      obtain ⟨W, rfl⟩ : ∃ W : World, W = wr := ⟨_, rfl⟩
      obtain ⟨k, brs, rfl, hkn, HBL, hp, hr, hAp, hk, hm, ro, hg, hB⟩ := hrel
      by_cases hlt : k < p.jobs.length
      · obtain ⟨st, hst⟩ : ∃ st, p.jobs[k]? = some st := ⟨_, List.getElem?_eq_getElem hlt⟩
        have hsl := (hv.steps k st hst).1
        obtain ⟨b, off, A', c', hA, hb0, hc, hSl⟩ := job_at (hS.on hB).jobs hst
        dsimp only at hA
        subst hA
        have HST := hide hst
        have hki : (k : Int) < (p.jobs.length : Int) := by omega
        have LB := hide (hr.lt (by have := HBL.out; have := HZ.out.2; omega))
        clear hst
        have c0 := hk.cell_ 0 rfl
        have c1 := hk.cell_ 1 rfl
        have c2 := hk.cell_ 2 rfl
        have c3 := hk.cell_ 3 rfl
        have c4 := hk.cell_ 4 rfl
        have c5 := hk.cell_ 5 rfl
        have g0 := hg.cell_ 0 rfl
        have g1 := hg.cell_ 1 rfl
        have g2 := hg.cell_ 2 rfl
        have g3 := hg.cell_ 3 rfl
        have g4 := hg.cell_ 4 rfl
        have g5 := hg.cell_ 5 rfl
        have g6 := hg.cell_ 6 rfl
        have g7 := hg.cell_ 7 rfl
        have g8 := hg.cell_ 8 rfl
        have q_c0 := (hk.alloc (.cells #[.slice A' st.length c'] 67)).cell_ 0 rfl
        have q_c1 := (hk.alloc (.cells #[.slice A' st.length c'] 67)).cell_ 1 rfl
        have q_c2 := (hk.alloc (.cells #[.slice A' st.length c'] 67)).cell_ 2 rfl
        have q_c3 := (hk.alloc (.cells #[.slice A' st.length c'] 67)).cell_ 3 rfl
        have q_c4 := (hk.alloc (.cells #[.slice A' st.length c'] 67)).cell_ 4 rfl
        have q_c5 := (hk.alloc (.cells #[.slice A' st.length c'] 67)).cell_ 5 rfl
        have q_g0 := (hg.alloc (.cells #[.slice A' st.length c'] 67)).cell_ 0 rfl
        have q_g1 := (hg.alloc (.cells #[.slice A' st.length c'] 67)).cell_ 1 rfl
        have q_g2 := (hg.alloc (.cells #[.slice A' st.length c'] 67)).cell_ 2 rfl
        have q_g3 := (hg.alloc (.cells #[.slice A' st.length c'] 67)).cell_ 3 rfl
        have q_g4 := (hg.alloc (.cells #[.slice A' st.length c'] 67)).cell_ 4 rfl
        have q_g5 := (hg.alloc (.cells #[.slice A' st.length c'] 67)).cell_ 5 rfl
        have q_g6 := (hg.alloc (.cells #[.slice A' st.length c'] 67)).cell_ 6 rfl
        have q_g7 := (hg.alloc (.cells #[.slice A' st.length c'] 67)).cell_ 7 rfl
        have q_g8 := (hg.alloc (.cells #[.slice A' st.length c'] 67)).cell_ 8 rfl
        go_wp2_with fail
        clear q_c0 q_c1 q_c2 q_c3 q_c4 q_c5 q_g0 q_g1 q_g2 q_g3 q_g4 q_g5 q_g6 q_g7 q_g8
        clear c0 c1 c2 c3 c4 c5 g0 g1 g2 g3 g4 g5 g6 g7 g8
        have hx := Blk.new W 67 #[.slice A' st.length c']
        replace hk := hk.alloc (.cells #[.slice A' st.length c'] 67)
        replace hm := hm.alloc (.cells #[.slice A' st.length c'] 67)
        replace ro := ro.alloc (.cells #[.slice A' st.length c'] 67)
        replace hp := hp.alloc (.cells #[.slice A' st.length c'] 67)
        replace hg := hg.alloc (.cells #[.slice A' st.length c'] 67)
        replace hr := hr.below ((Below.refl _ W).alloc (Nat.le_refl _) (.cells #[.slice A' st.length c'] 67))
        have hsz_xb : (W.alloc (.cells #[.slice A' st.length c'] 67)).heap.size = W.heap.size + 1 := by simp
        have xbge := hB.size
        replace hB := hB.alloc hB.size (.cells #[.slice A' st.length c'] 67)
        generalize hxb : W.heap.size = xb at *
        generalize W.alloc (.cells #[.slice A' st.length c'] 67) = W at *
        clear hxb
        have c0 := hk.cell_ 0 rfl
        have c1 := hk.cell_ 1 rfl
        have c2 := hk.cell_ 2 rfl
        have c3 := hk.cell_ 3 rfl
        have c4 := hk.cell_ 4 rfl
        have c5 := hk.cell_ 5 rfl
        have g0 := hg.cell_ 0 rfl
        have g1 := hg.cell_ 1 rfl
        have g2 := hg.cell_ 2 rfl
        have g3 := hg.cell_ 3 rfl
        have g4 := hg.cell_ 4 rfl
        have g5 := hg.cell_ 5 rfl
        have g6 := hg.cell_ 6 rfl
        have g7 := hg.cell_ 7 rfl
        have g8 := hg.cell_ 8 rfl
        have x0 := hx.cell_ 0 rfl
        clear hc
        have lx := hx.lt
        have lg := hg.lt
        have lm := hm.lt
        have lo := ro.lt
        have lp := hp.lt
        have lk := hk.lt
        go_wp2_with fail
        have z_c0 := hide (fun w' (hb : Below W.heap.size W w') => Since.later hb c0)
        have z_c1 := hide (fun w' (hb : Below W.heap.size W w') => Since.later hb c1)
        have z_c2 := hide (fun w' (hb : Below W.heap.size W w') => Since.later hb c2)
        have z_c3 := hide (fun w' (hb : Below W.heap.size W w') => Since.later hb c3)
        have z_c4 := hide (fun w' (hb : Below W.heap.size W w') => Since.later hb c4)
        have z_c5 := hide (fun w' (hb : Below W.heap.size W w') => Since.later hb c5)
        have z_g0 := hide (fun w' (hb : Below W.heap.size W w') => Since.later hb g0)
        have z_g1 := hide (fun w' (hb : Below W.heap.size W w') => Since.later hb g1)
        have z_g2 := hide (fun w' (hb : Below W.heap.size W w') => Since.later hb g2)
        have z_g3 := hide (fun w' (hb : Below W.heap.size W w') => Since.later hb g3)
        have z_g4 := hide (fun w' (hb : Below W.heap.size W w') => Since.later hb g4)
        have z_g5 := hide (fun w' (hb : Below W.heap.size W w') => Since.later hb g5)
        have z_g6 := hide (fun w' (hb : Below W.heap.size W w') => Since.later hb g6)
        have z_g7 := hide (fun w' (hb : Below W.heap.size W w') => Since.later hb g7)
        have z_g8 := hide (fun w' (hb : Below W.heap.size W w') => Since.later hb g8)
        have z_x0 := hide (fun w' (hb : Below W.heap.size W w') => Since.later hb x0)
        have hok : FldOk W ([⟨8, (.slice st.length st.length), (.cells (List.replicate st.length (Value.int .i64 0)).toArray 3), 8, (.cells (List.replicate st.length (Value.int .i64 0)).toArray 3)⟩]) [] := FldOk.nil_
        refine wp_region_both 9 [0, 1, 2, 3, 4, 5, 6, 7] [8] [⟨8, (.slice st.length st.length), (.cells (List.replicate st.length (Value.int .i64 0)).toArray 3), 8, (.cells (List.replicate st.length (Value.int .i64 0)).toArray 3)⟩] [] (fun f hf => by cases hf) (by kernel_rfl) (by kernel_rfl) (by kernel_rfl) (by kernel_rfl) (by kernel_rfl) (by simp) ?_
        apply Exists.intro
        refine ⟨fun W1 hc0 => ?_, ?_⟩
        · have hb := hc0.nil_
          have y_c0 := Since.cell (z_c0.out W1 hb)
          have y_c1 := Since.cell (z_c1.out W1 hb)
          have y_c2 := Since.cell (z_c2.out W1 hb)
          have y_c3 := Since.cell (z_c3.out W1 hb)
          have y_c4 := Since.cell (z_c4.out W1 hb)
          have y_c5 := Since.cell (z_c5.out W1 hb)
          have y_g0 := Since.cell (z_g0.out W1 hb)
          have y_g1 := Since.cell (z_g1.out W1 hb)
          have y_g2 := Since.cell (z_g2.out W1 hb)
          have y_g3 := Since.cell (z_g3.out W1 hb)
          have y_g4 := Since.cell (z_g4.out W1 hb)
          have y_g5 := Since.cell (z_g5.out W1 hb)
          have y_g6 := Since.cell (z_g6.out W1 hb)
          have y_g7 := Since.cell (z_g7.out W1 hb)
          have y_g8 := Since.cell (z_g8.out W1 hb)
          have y_x0 := Since.cell (z_x0.out W1 hb)
          replace hk := hk.below hb hk.lt
          replace hm := hm.below hb hm.lt
          replace ro := ro.below hb ro.lt
          replace hp := hp.below hb hp.lt
          replace hg := hg.below hb hg.lt
          replace hr := hr.below hb
          replace hx := hx.below hb hx.lt
          replace hB := hB.trans (hb.mono hB.size)
          dsimp only [pick, List.filterMap, List.getElem?_cons_succ, List.getElem?_cons_zero]
          repeat (go_big_quiet_step ((fail)))
          exact wpQuiet_nil rfl
        · refine ownWalk_alloc ⟨8, (.slice st.length st.length), (.cells (List.replicate st.length (Value.int .i64 0)).toArray 3), 8, (.cells (List.replicate st.length (Value.int .i64 0)).toArray 3)⟩ hok (by kernel_rfl) rfl rfl rfl rfl (fun w => run_exec_make rfl (MK1.out st.length (by omega) w)) (by simp) (by simp) (fun _ => rfl) ?_
          intro rnb
          simp only [Shape.val, List.setIfInBounds_toArray, List.set_cons_succ, List.set_cons_zero]
          refine ownWalk_nil ?_
          intro w' hc0 hD
          have hb := hc0.nil_
          obtain ⟨rnge, rn⟩ := hD.box.get (x := ⟨8, (.slice st.length st.length), (.cells (List.replicate st.length (Value.int .i64 0)).toArray 3), 8, (.cells (List.replicate st.length (Value.int .i64 0)).toArray 3)⟩) (o := (.cells (List.replicate st.length (Value.int .i64 0)).toArray 3)) (by simp) rfl rfl
          replace rn : Blk _ _ _ _ := rn
          clear hD
          try simp only [List.drop_succ_cons, List.drop_zero]
          clear z_c0 z_c1 z_c2 z_c3 z_c4 z_c5 z_g0 z_g1 z_g2 z_g3 z_g4 z_g5 z_g6 z_g7 z_g8 z_x0
          have hWge := hB.size
          clear c0 c1 c2 c3 c4 c5 g0 g1 g2 g3 g4 g5 g6 g7 g8 x0
          replace hk := hk.below hb hk.lt
          replace hm := hm.below hb hm.lt
          replace ro := ro.below hb ro.lt
          replace hp := hp.below hb hp.lt
          replace hg := hg.below hb hg.lt
          replace hr := hr.below hb
          replace hx := hx.below hb hx.lt
          replace hB := hB.trans (hb.mono hB.size)
          clear hb hok hc0
          obtain ⟨W, rfl⟩ : ∃ W : World, W = w' := ⟨_, rfl⟩
          have c0 := hk.cell_ 0 rfl
          have c1 := hk.cell_ 1 rfl
          have c2 := hk.cell_ 2 rfl
          have c3 := hk.cell_ 3 rfl
          have c4 := hk.cell_ 4 rfl
          have c5 := hk.cell_ 5 rfl
          have g0 := hg.cell_ 0 rfl
          have g1 := hg.cell_ 1 rfl
          have g2 := hg.cell_ 2 rfl
          have g3 := hg.cell_ 3 rfl
          have g4 := hg.cell_ 4 rfl
          have g5 := hg.cell_ 5 rfl
          have g6 := hg.cell_ 6 rfl
          have g7 := hg.cell_ 7 rfl
          have g8 := hg.cell_ 8 rfl
          have x0 := hx.cell_ 0 rfl
          have hz2 : k < (rowsK brs zs).size := by rw [rowsK_size]; have := HZ.out.2; omega
          have HZ2 := hide hz2
          clear hz2
          go_wp2_with (refine wpList_store_at rfl 22 _ _ rfl (.slice (some ⟨rnb, 0, none⟩) st.length st.length) hp rfl rfl (by kernel_rfl) rfl HZ2.out rfl ?_; intro W2 hp2 hc2)
          have hz : zs[brs.length]? = some (List.replicate st.length 0) := by rw [HBL.out, HZ.out.1, List.getElem?_map, HST.out]; rfl
          have hrv : Value.slice (some ⟨rnb, 0, none⟩) st.length st.length = rowV rnb (List.replicate st.length 0) := by simp [rowV]
          rw [hrv, ← HBL.out, rowsK_set hz] at hp2
          rw [ints_zero] at rn
          have nb : ∀ q ∈ brs, q < xb := LB.out
          have q1 : rnb ≠ rpb := by omega
          have q2 : w.heap.size ≠ rpb := by have := hAp.1; omega
          have q3 : ∀ q ∈ brs, q ≠ rpb := fun q hq he => by have := hAp.1; simp only [List.nodup_cons, List.mem_cons, not_or] at this; exact this.2.2.2.1 (he ▸ hq)
          have q4 : gb ≠ rpb ∧ rmb ≠ rpb ∧ rob ≠ rpb := by have := hAp.1; simp only [List.nodup_cons, List.mem_cons, not_or] at this; exact ⟨this.1.2.2.1, this.2.1.2.1, this.2.2.1.1⟩
          replace hr := (hr.chg1 hc2 q3).snoc hz (rn.chg1 hc2 q1)
          replace hm := hm.same (hc2.block _ hm.lt q4.2.1)
          replace ro := ro.chg1 hc2 q4.2.2
          replace hg := hg.chg1 hc2 q4.1
          replace hk := hk.chg1 hc2 q2
          replace hB := hB.trans (hc2.below1 hB.size (by omega))
          have hAp2 : Apart w.heap.size gb rmb rob rpb (brs ++ [rnb]) := hAp.snoc ⟨by omega, by omega, by omega, by omega⟩ (fun hq => by have := nb _ hq; omega) (by omega)
          have HBL2 : Hid ((brs ++ [rnb]).length = k + 1) := by show _ = _; rw [List.length_append, HBL.out]; rfl
          clear hz hrv nb q1 q2 q3 q4 hp hAp HBL hx rn hc2
          go_roundw
          case rel => exact ⟨k + 1, brs ++ [rnb], by go_num, by omega, HBL2, hp2, hr, hAp2, hk, hm, ro, hg, hB⟩
          case measure => simp [intOf]; omega
      · obtain rfl : k = p.jobs.length := by omega
        have c0 := hk.cell_ 0 rfl
        have c1 := hk.cell_ 1 rfl
        have c2 := hk.cell_ 2 rfl
        have c3 := hk.cell_ 3 rfl
        have c4 := hk.cell_ 4 rfl
        have c5 := hk.cell_ 5 rfl
        have g0 := hg.cell_ 0 rfl
        have g1 := hg.cell_ 1 rfl
        have g2 := hg.cell_ 2 rfl
        have g3 := hg.cell_ 3 rfl
        have g4 := hg.cell_ 4 rfl
        have g5 := hg.cell_ 5 rfl
        have g6 := hg.cell_ 6 rfl
        have g7 := hg.cell_ 7 rfl
        have g8 := hg.cell_ 8 rfl
        go_wp2_with fail
        go_ret
        have hD : DeskAt w.heap.size W gb rmb rob rpb brs ⟨p, aH, cH, aS, cS, aJ, cJ⟩ (desk0 p) := by
          obtain ⟨h1, h2⟩ := HZ.out
          have h3 := HBL.out
          refine ⟨by simpa [desk0] using hg, hm, ro, ?_, by simp [desk0, h3], fun i b l g1 g2 => hr i b l g1 (by rw [h1]; exact g2), hAp.1, fun q hq => ?_⟩
          · show Blk W rpb _ (rowsV brs (p.jobs.map fun l => List.replicate l.length 0))
            rw [← h1, ← rowsK_all (by omega)]; exact hp
          · simp only [List.mem_cons] at hq
            rcases hq with rfl | rfl | rfl | rfl | hq
            · omega
            · omega
            · omega
            · omega
            · exact Nat.le_of_lt (hAp.2 q hq)
        exact ⟨gb, rmb, rob, rpb, brs, rfl, hB, hD⟩
end Go.Proofs.Ytcpnfcnobnjhdaa
