/- Parts of the proofs of this seat: DeskP. Each part says what it proves; no condition beyond those stated there. -/
import Derived.Test.YtcpnfcnobnjhdaaB8
import Derived.Test.YtcpnfcnobnjhdaaB13
import Derived.Test.YtcpnfcnobnjhdaaB14

/- The desk of package shop: what it is in memory. -/
namespace Go.Proofs.Ytcpnfcnobnjhdaa
open Go.RowKit
theorem Slc.at4_ {w : World} {B : Nat} {A : Option Addr} {xs : List Step} {k : Nat} {x : Step} (h : Slc Step.enc 4 w B A xs) (hx : xs[k]? = some x) :
    ∃ b off, A = some ⟨b, off, none⟩ ∧ b < B ∧ w.cell? ⟨b, off + k * 4, none⟩ = some (.int .i64 x.m) ∧ w.cell? ⟨b, off + k * 4 + 1, none⟩ = some (.int .i64 x.mi) ∧ w.cell? ⟨b, off + k * 4 + 2, none⟩ = some (.int .i64 x.c) ∧ w.cell? ⟨b, off + k * 4 + 3, none⟩ = some (.int .i64 x.d) := by
  obtain ⟨b, off, ha, hb, hc⟩ := h k _ hx
  exact ⟨b, off, ha, hb, by simpa using hc 0 _ rfl, hc 1 _ rfl, hc 2 _ rfl, hc 3 _ rfl⟩
structure Desk where
  last : List (Int × At)
  on : List Int
  plan : List (List Int)
def atV (a : At) : Value := .agg #[.int .i64 a.j, .int .i64 a.k, .int .i64 a.t, .int .i64 a.x.m, .int .i64 a.x.mi, .int .i64 a.x.c, .int .i64 a.x.d]
def intV (n : Int) : Value := .int .i64 n
def rowV (b : Nat) (l : List Int) : Value := .slice (some ⟨b, 0, none⟩) l.length l.length
def kvA (p : Int × At) : Int × Value := (p.1, atV p.2)
def ints (l : List Int) : Array Value := (l.map intV).toArray
theorem ints_size (l : List Int) : (ints l).size = l.length := by simp [ints]
theorem ints_get {l : List Int} {i : Nat} {n : Int} (h : l[i]? = some n) : (ints l)[i]? = some (.int .i64 n) := by simp [ints, h, intV]
theorem ints_set (l : List Int) (i : Nat) (n : Int) : (ints l).setIfInBounds i (.int .i64 n) = ints (l.set i n) := by
  simp [ints, List.setIfInBounds_toArray, List.map_set, intV]
def rowsV (brs : List Nat) (pl : List (List Int)) : Array Value := (List.zipWith rowV brs pl).toArray
/-- Block g is a desk of the shop s; its memory lies in blocks from B on. -/
structure DeskAt (B : Nat) (w : World) (g mb bo bp : Nat) (brs : List Nat) (s : Sh) (D : Desk) : Prop where
  blk : Blk w g 83 #[.int .i64 s.p.op, .int .i64 s.p.cl, .slice s.aH s.p.hol.length s.cH, .int .i64 s.p.mach, .slice s.aS s.p.setup.length s.cS, .slice s.aJ s.p.jobs.length s.cJ, .map (some mb), .slice (some ⟨bo, 0, none⟩) D.on.length D.on.length, .slice (some ⟨bp, 0, none⟩) D.plan.length D.plan.length]
  map : MapOf w mb (D.last.map kvA)
  on : Blk w bo 3 (ints D.on)
  pl : Blk w bp 22 (rowsV brs D.plan)
  len : brs.length = D.plan.length
  rows : ∀ (i b : Nat) l, brs[i]? = some b → D.plan[i]? = some l → Blk w b 3 (ints l)
  nd : (g :: mb :: bo :: bp :: brs).Nodup
  base : ∀ k ∈ g :: mb :: bo :: bp :: brs, B ≤ k
/-- the blocks of a desk that turn -/
def OfDesk (mb bo : Nat) (brs : List Nat) (k : Nat) : Prop := k = mb ∨ k = bo ∨ k ∈ brs
section
variable {B : Nat} {w w' : World} {g mb bo bp : Nat} {brs : List Nat} {s : Sh} {D : Desk}
theorem DeskAt.below (h : DeskAt B w g mb bo bp brs s D) (hb : Below w.heap.size w w') : DeskAt B w' g mb bo bp brs s D :=
  ⟨h.blk.below hb h.blk.lt, h.map.below hb h.map.lt, h.on.below hb h.on.lt, h.pl.below hb h.pl.lt, h.len, fun i b l h1 h2 => (h.rows i b l h1 h2).below hb (h.rows i b l h1 h2).lt, h.nd, h.base⟩
theorem DeskAt.chg {S : Nat → Prop} (h : DeskAt B w g mb bo bp brs s D) (hc : Chg S w w') (hS : ∀ k ∈ g :: mb :: bo :: bp :: brs, ¬ S k) : DeskAt B w' g mb bo bp brs s D :=
  ⟨h.blk.chg hc (hS _ (by simp)), h.map.same (hc.block _ h.map.lt (hS _ (by simp))), h.on.chg hc (hS _ (by simp)), h.pl.chg hc (hS _ (by simp)), h.len,
   fun i b l h1 h2 => (h.rows i b l h1 h2).chg hc (hS _ (by have := List.mem_of_getElem? h1; simp [this])), h.nd, h.base⟩
theorem DeskAt.alloc (h : DeskAt B w g mb bo bp brs s D) (o : Obj) : DeskAt B (w.alloc o) g mb bo bp brs s D := h.below ((Below.refl _ _).alloc (Nat.le_refl _) o)
theorem DeskAt.row (h : DeskAt B w g mb bo bp brs s D) {i : Nat} {l : List Int} (hl : D.plan[i]? = some l) : ∃ b, brs[i]? = some b ∧ Blk w b 3 (ints l) ∧ (rowsV brs D.plan)[i]? = some (.slice (some ⟨b, 0, none⟩) l.length l.length) ∧ B ≤ b := by
  have hi : i < brs.length := by rw [h.len]; exact (List.getElem?_eq_some_iff.1 hl).1
  have hb : brs[i]? = some brs[i] := List.getElem?_eq_getElem hi
  refine ⟨brs[i], hb, h.rows i _ l hb hl, ?_, h.base _ (by simp)⟩
  simp [rowsV, List.getElem?_zipWith, hb, hl, rowV]
/-- the plan that it holds -/
theorem DeskAt.plan_ (h : DeskAt B w g mb bo bp brs s D) : Plan w w.heap.size (some ⟨bp, 0, none⟩) D.plan := fun i l hl => by
  obtain ⟨b, h1, h2, h3, h4⟩ := h.row hl
  refine ⟨bp, 0, some ⟨b, 0, none⟩, l.length, rfl, h.pl.lt, ?_, fun k x hx => ⟨b, 0, rfl, h2.lt, fun j v hv => ?_⟩⟩
  · rw [Nat.zero_add]; exact h.pl.cell_ i h3
  · cases j with
    | zero =>
      simp [intEnc] at hv; subst hv
      simpa using h2.cell_ k (ints_get hx)
    | succ j => simp [intEnc] at hv
end
noncomputable def earlF (p : Shop) (D : Desk) (j : Nat) (x : Step) : Int :=
  nextF p (match look D.last x.m with | some b => max (D.on.getD j 0) (roomF p b x.c) | none => D.on.getD j 0) x.mi
def Desk.put (D : Desk) (a : At) : Desk := ⟨Go.Proofs.Ytcpnfcnobnjhdaa.put D.last a.x.m a, D.on.set a.j a.dry, D.plan.modify a.j fun l => l.set a.k a.t⟩
theorem look_kvA (L : List (Int × At)) (k : Int) : look (L.map kvA) k = (look L k).map atV := by
  unfold look
  rw [List.find?_map]
  show Option.map _ (Option.map kvA (List.find? (fun p => p.1 == k) L)) = _
  cases List.find? (fun p => p.1 == k) L <;> rfl
theorem put_kvA (L : List (Int × At)) (k : Int) (a : At) : Go.Proofs.Ytcpnfcnobnjhdaa.put (L.map kvA) k (atV a) = (Go.Proofs.Ytcpnfcnobnjhdaa.put L k a).map kvA := by
  unfold Go.Proofs.Ytcpnfcnobnjhdaa.put
  rw [look_kvA]
  cases look L k with
  | none => simp [kvA]
  | some b =>
    simp only [Option.map_some, Option.isSome_some, if_true, List.map_map]
    apply List.map_congr_left
    intro p _
    simp only [Function.comp]
    by_cases hp : p.1 = k <;> simp [kvA, hp]
theorem room_bd {p : Shop} (hv : VShop p) {b : At} (hf : AtFit p b) {c : Int} : b.t + b.x.mi ≤ roomF p b c ∧ roomF p b c ≤ b.t + b.x.mi + 1000 := by
  obtain ⟨_, h1, h2⟩ := setup_get hv hf.m0 hf.m1
  unfold roomF At.end_
  split <;> omega
theorem room_bd' {p : Shop} (hv : VShop p) {b : At} (hf : AtFit p b) {c : Int} : 0 ≤ roomF p b c ∧ roomF p b c ≤ 1000010000 := by
  have h := room_bd hv hf (c := c)
  have := hf.t0
  have := hf.t1
  have := hf.mi0
  have := hf.mi1
  omega
section
variable {B : Nat} {w w' : World} {g mb bo bp : Nat} {brs : List Nat} {s : Sh} {D : Desk}
theorem DeskAt.nes (h : DeskAt B w g mb bo bp brs s D) : (g ≠ mb ∧ g ≠ bo ∧ g ≠ bp ∧ ∀ b ∈ brs, g ≠ b) ∧ (mb ≠ bo ∧ mb ≠ bp ∧ ∀ b ∈ brs, mb ≠ b) ∧ (bo ≠ bp ∧ ∀ b ∈ brs, bo ≠ b) ∧ (∀ b ∈ brs, bp ≠ b) ∧ brs.Nodup := by
  have hn := h.nd
  simp only [List.nodup_cons, List.mem_cons, not_or] at hn
  obtain ⟨⟨a1, a2, a3, a4⟩, ⟨b1, b2, b3⟩, ⟨c1, c2⟩, d, e⟩ := hn
  exact ⟨⟨a1, a2, a3, fun b hb he => a4 (he ▸ hb)⟩, ⟨b1, b2, fun b hb he => b3 (he ▸ hb)⟩, ⟨c1, fun b hb he => c2 (he ▸ hb)⟩, fun b hb he => d (he ▸ hb), e⟩
theorem DeskAt.setMap (h : DeskAt B w g mb bo bp brs s D) {k : Int} {a : At} (hM : MapOf w' mb (Go.Proofs.Ytcpnfcnobnjhdaa.put (D.last.map kvA) k (atV a))) (hc : Chg (fun k => k = mb) w w') : DeskAt B w' g mb bo bp brs s ⟨Go.Proofs.Ytcpnfcnobnjhdaa.put D.last k a, D.on, D.plan⟩ := by
  obtain ⟨⟨a1, a2, a3, a4⟩, ⟨b1, b2, b3⟩, ⟨c1, c2⟩, d, e⟩ := h.nes
  rw [put_kvA] at hM
  exact ⟨h.blk.chg1 hc a1, hM, h.on.chg1 hc (Ne.symm b1), h.pl.chg1 hc (Ne.symm b2), h.len, fun i b l h1 h2 => (h.rows i b l h1 h2).chg1 hc (Ne.symm (b3 b (List.mem_of_getElem? h1))), h.nd, h.base⟩
theorem DeskAt.setOn (h : DeskAt B w g mb bo bp brs s D) {j : Nat} {d : Int} (hO : Blk w' bo 3 ((ints D.on).setIfInBounds j (.int .i64 d))) (hc : Chg (fun k => k = bo) w w') : DeskAt B w' g mb bo bp brs s ⟨D.last, D.on.set j d, D.plan⟩ := by
  obtain ⟨⟨a1, a2, a3, a4⟩, ⟨b1, b2, b3⟩, ⟨c1, c2⟩, d, e⟩ := h.nes
  rw [ints_set] at hO
  exact ⟨by simpa using h.blk.chg1 hc a2, h.map.same (hc.block _ h.map.lt b1), hO, h.pl.chg1 hc (Ne.symm c1), h.len, fun i b l h1 h2 => (h.rows i b l h1 h2).chg1 hc (Ne.symm (c2 b (List.mem_of_getElem? h1))), h.nd, h.base⟩
theorem rowsV_modify {brs : List Nat} {pl : List (List Int)} {j : Nat} {f : List Int → List Int} (hf : ∀ l, (f l).length = l.length) : rowsV brs (pl.modify j f) = rowsV brs pl := by
  unfold rowsV
  congr 1
  apply List.ext_getElem?
  intro i
  simp only [List.getElem?_zipWith, List.getElem?_modify]
  cases brs[i]? with
  | none => rfl
  | some b =>
    cases pl[i]? with
    | none => rfl
    | some l =>
      by_cases hji : j = i <;> simp [hji, rowV, hf]
theorem DeskAt.setRow (h : DeskAt B w g mb bo bp brs s D) {j k br : Nat} {l : List Int} {t : Int} (hbr : brs[j]? = some br) (hl : D.plan[j]? = some l) (hR : Blk w' br 3 ((ints l).setIfInBounds k (.int .i64 t))) (hc : Chg (fun k => k = br) w w') :
    DeskAt B w' g mb bo bp brs s ⟨D.last, D.on, D.plan.modify j fun l => l.set k t⟩ := by
  obtain ⟨⟨a1, a2, a3, a4⟩, ⟨b1, b2, b3⟩, ⟨c1, c2⟩, d, e⟩ := h.nes
  have hm := List.mem_of_getElem? hbr
  rw [ints_set] at hR
  refine ⟨by simpa using h.blk.chg1 hc (a4 _ hm), h.map.same (hc.block _ h.map.lt (b3 _ hm)), h.on.chg1 hc (c2 _ hm), ?_, by simpa using h.len, fun i b l' h1 h2 => ?_, h.nd, h.base⟩
  · rw [rowsV_modify (fun l => by simp)]
    exact h.pl.chg1 hc (d _ hm)
  · rw [List.getElem?_modify] at h2
    by_cases hij : j = i
    · subst hij
      rw [hbr] at h1
      injection h1 with h1
      subst h1
      rw [hl] at h2
      simp at h2
      subst h2
      exact hR
    · cases hpi : D.plan[i]? with
      | none => rw [hpi] at h2; simp at h2
      | some l0 =>
        rw [hpi] at h2
        simp [hij] at h2
        subst h2
        refine (h.rows i b l0 h1 hpi).chg1 hc fun he => ?_
        subst he
        have h4 := List.getElem?_eq_some_iff.1 hbr
        exact hij ((List.getElem?_inj h4.1 e).1 (hbr.trans h1.symm))
theorem DeskAt.lts (h : DeskAt B w g mb bo bp brs s D) : ∀ k ∈ g :: mb :: bo :: bp :: brs, k < w.heap.size := fun k hk => by
  simp only [List.mem_cons] at hk
  rcases hk with rfl | rfl | rfl | rfl | hk
  · exact h.blk.lt
  · exact h.map.lt
  · exact h.on.lt
  · exact h.pl.lt
  · obtain ⟨i, hi⟩ := List.getElem?_of_mem hk
    have hil : i < D.plan.length := by rw [← h.len]; exact (List.getElem?_eq_some_iff.1 hi).1
    exact (h.rows i k _ hi (List.getElem?_eq_getElem hil)).lt
end
end Go.Proofs.Ytcpnfcnobnjhdaa
