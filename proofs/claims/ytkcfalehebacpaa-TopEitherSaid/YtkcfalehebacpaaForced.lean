/- forced: the walk. -/
import Derived.Test.YtkcfalehebacpaaNClone
import Derived.Test.YtkcfalehebacpaaCalls
namespace Go.Proofs.Ytkcfalehebacpaa
open Go Go.RowKit
def NoExt (C : List (List Int)) (cap N : List Int) (job k : Nat) : Prop := ∀ N'', Pl (C.set job [(k : Int)]) cap N'' → N''[job]? = some (k : Int) → (∀ i, i < job → N''[i]? = N[i]?) → False
def ForcedPost (C : List (List Int)) (cap N : List Int) (job k : Nat) (w : World) (e : Ending) (w' : World) : Prop :=
  Below w.heap.size w w' ∧ ((e = .returned (.pointer none) ∧ NoExt C cap N job k) ∨
  ∃ (K' : Nat → Prop) (g' : Nat) (AC' : Option Addr) (cC' cP' cN' bp' bn' : Nat) (N' P' : List Int), e = .returned (.pointer (some ⟨g', 0, none⟩)) ∧ Mem K' w' g' AC' cC' cP' cN' bp' bn' (C.set job [(k : Int)]) N' P' ∧ (∀ b, K' b → b < w'.heap.size) ∧
    w.heap.size ≤ g' ∧ w.heap.size ≤ bp' ∧ w.heap.size ≤ bn' ∧ Forced C cap N job k N' P')
theorem own_good {α : Type} (i base : Nat) (e : TypeId) (sz : Nat) (f : α → List Value) (l : List α) : (Cl.mk i fun u w => Own w base e sz f u l).Good :=
  ⟨fun _ _ _ hb h => h.below hb, fun _ _ h b hb => (World.ownsRow.lt h b hb).2⟩
theorem NestIn.rows {K : Nat → Prop} {w : World} {A : Option Addr} {C : List (List Int)} (h : NestIn K w A C) (hK : ∀ b, K b → b < w.heap.size) :
    ∃ rs : List Rw, rs.length = C.length ∧ Slc rwEnc 1 w w.heap.size A rs ∧ ∀ (i : Nat) l, C[i]? = some l → ∃ A' c', rs[i]? = some (A', l.length, c') ∧ SlcIn K w A' l := by
  have key : ∀ i : Nat, ∃ r : Rw, ∀ l, C[i]? = some l → ∃ b off A' c', A = some ⟨b, off, none⟩ ∧ K b ∧ w.cell? ⟨b, off + i, none⟩ = some (.slice A' l.length c') ∧ SlcIn K w A' l ∧ r = (A', l.length, c') := fun i => by
    cases hC : C[i]? with
    | none => exact ⟨(none, 0, 0), fun l h => by cases h⟩
    | some l =>
      obtain ⟨b, off, A', c', h1, h2, h3, h4⟩ := h i l hC
      exact ⟨(A', l.length, c'), fun l' hl' => by injection hl' with hl'; subst hl'; exact ⟨b, off, A', c', h1, h2, h3, h4, rfl⟩⟩
  refine ⟨(List.range C.length).map fun i => Classical.choose (key i), by simp, fun i r hi => ?_, fun i l hl => ?_⟩
  · have hlt : i < C.length := by have := (List.getElem?_eq_some_iff.1 hi).1; simpa using this
    obtain ⟨b, off, A', c', h1, h2, h3, h4, h5⟩ := Classical.choose_spec (key i) _ (List.getElem?_eq_getElem hlt)
    rw [List.getElem?_map, List.getElem?_range hlt, Option.map_some] at hi
    injection hi with hi
    refine ⟨b, off, h1, hK b h2, fun j v hv => ?_⟩
    cases j with
    | zero =>
      simp [rwEnc] at hv
      subst hv
      rw [← hi, h5, Nat.mul_one, Nat.add_zero]
      exact h3
    | succ j => simp [rwEnc] at hv
  · have hlt := (List.getElem?_eq_some_iff.1 hl).1
    obtain ⟨b, off, A', c', h1, h2, h3, h4, h5⟩ := Classical.choose_spec (key i) _ hl
    exact ⟨A', c', by rw [List.getElem?_map, List.getElem?_range hlt, Option.map_some, h5], h4⟩
theorem intJ_slc {w : World} {b : Nat} {l : List Int} {js : List Value} (h : Blk w b 3 (intJ l js)) : Slc intEnc 1 w w.heap.size (some ⟨b, 0, none⟩) l := fun i x hx => by
  refine ⟨b, 0, rfl, h.lt, fun j v hv => ?_⟩
  cases j with
  | zero =>
    simp [intEnc] at hv
    subst hv
    have := h.cell_ i (intJ_get hx)
    simpa using this
  | succ j => simp [intEnc] at hv
/-- the rows of the clone, one of them another -/
theorem rows_nest {K : Nat → Prop} {w0 w : World} {rs : List Rw} {C : List (List Int)} {b bk job : Nat} {js : List Value} {k : Int} (hrl : rs.length = C.length) (hrs : ∀ (i : Nat) l, C[i]? = some l → ∃ A' c', rs[i]? = some (A', l.length, c') ∧ SlcIn K w0 A' l)
    (hb : Blk w b 26 ((rs.map rwV ++ js).toArray.setIfInBounds job (.slice (some ⟨bk, 0, none⟩) 1 1))) (hk : Blk w bk 3 #[.int .i64 k]) (hc : ∀ A l, SlcIn K w0 A l → SlcIn K w A l) : NestIn (fun q => K q ∨ q = b ∨ q = bk) w (some ⟨b, 0, none⟩) (C.set job [k]) := fun i l hl => by
  have hi : i < C.length := by have := (List.getElem?_eq_some_iff.1 hl).1; simpa using this
  by_cases e : job = i
  · subst e
    rw [List.getElem?_set_self hi] at hl
    injection hl with hl
    subst hl
    refine ⟨b, 0, some ⟨bk, 0, none⟩, 1, rfl, .inr (.inl rfl), ?_, fun j x hx => ?_⟩
    · have := hb.cell_ job (v := .slice (some ⟨bk, 0, none⟩) 1 1) (by rw [Array.getElem?_setIfInBounds_self_of_lt (by simp; omega)])
      simpa using this
    · cases j with
      | zero =>
        simp at hx
        subst hx
        exact ⟨bk, 0, rfl, .inr (.inr rfl), hk.cell_ 0 rfl⟩
      | succ j => simp at hx
  · rw [List.getElem?_set_ne e] at hl
    obtain ⟨A', c', h1, h2⟩ := hrs i l hl
    refine ⟨b, 0, A', c', rfl, .inr (.inl rfl), ?_, fun j x hx => ?_⟩
    · have := hb.cell_ i (v := .slice A' l.length c') (by
        rw [Array.getElem?_setIfInBounds_ne e, List.getElem?_toArray, List.getElem?_append_left (by rw [List.length_map]; omega), List.getElem?_map, h1]; rfl)
      simpa using this
    · obtain ⟨b', off, g1, g2, g3⟩ := hc A' l h2 j x hx
      exact ⟨b', off, g1, .inl g2, g3⟩
/-- a matching in which job has no night, and that is N before it -/
structure Freed (C : List (List Int)) (cap N : List Int) (job : Nat) (N9 P9 : List Int) : Prop where
  vm : VM C cap N9 P9
  nl : N9.length = N.length
  at_ : N9[job]? = some (-1)
  front : ∀ i, i < job → N9[i]? = N[i]?
theorem Freed.taken {C : List (List Int)} {cap N N9 P9 : List Int} {job k : Nat} {p : Int} (h : Freed C cap N job N9 P9) (hcap : CapOk cap) (hP : P9[k]? = some p) (hp : 0 < p) : VM (C.set job [(k : Int)]) cap (N9.set job k) (P9.set k (p - 1)) := by
  have hkl : k < cap.length := by rw [← h.vm.pl]; exact (List.getElem?_eq_some_iff.1 hP).1
  refine (h.vm.reC hcap (.inl h.at_) (fun v hv => ?_)).take hcap h.at_ hP hp fun l hl => ?_
  · rw [List.mem_singleton] at hv; omega
  · have hj : job < C.length := by have := (List.getElem?_eq_some_iff.1 hl).1; simpa using this
    rw [List.getElem?_set_self hj] at hl
    injection hl with hl
    subst hl; simp
theorem row_set {C : List (List Int)} {job : Nat} {k : Int} (hcr : ∀ (i : Nat) l, C[i]? = some l → l.length ≤ 100) : ∀ (i : Nat) l, (C.set job [k])[i]? = some l → l.length ≤ 100 := fun i l hl => by
  by_cases e : job = i
  · subst e
    have hj : job < C.length := by have := (List.getElem?_eq_some_iff.1 hl).1; simpa using this
    rw [List.getElem?_set_self hj] at hl
    injection hl with hl
    subst hl; simp
  · rw [List.getElem?_set_ne e] at hl; exact hcr i l hl
theorem Freed.forced {C : List (List Int)} {cap N N9 P9 N4 P4 : List Int} {job k : Nat} {p : Int} (h : Freed C cap N job N9 P9) (hcap : CapOk cap) (hf : Fixed C N job) (hP : P9[k]? = some p) (hp : 0 < p) (hk : Keep (N9.set job k) N4) (h4 : VM (C.set job [(k : Int)]) cap N4 P4)
    (hs : StuckTo (C.set job [(k : Int)]) N4 P4 (C.set job [(k : Int)]).length) : Forced C cap N job k N4 P4 := by
  have hj := (List.getElem?_eq_some_iff.1 h.at_).1
  refine Forced.grown hcap h.vm.chOk hf (by rw [h.vm.sh.cl]; exact hj) (N3 := N9.set job k) (fun i v hv => ((h.taken hcap hP hp).sh.nk i v hv).1) (fun i hi => ?_) (List.getElem?_set_self hj) hk h4 hs
  rw [List.getElem?_set_ne (by omega)]; exact h.front i hi
set_option maxRecDepth 100000 in
set_option maxHeartbeats 4000000 in
theorem forced_any (K : Nat → Prop) (g : Nat) (AC : Option Addr) (cC cP cN bp bn : Nat) (C : List (List Int)) (cap N P : List Int) (job k : Nat) (l0 : List Int) (w : World) (hK : ∀ b, K b → b < w.heap.size) (hM : Mem K w g AC cC cP cN bp bn C N P) (hV : VM C cap N P) (hcap : CapOk cap)
    (hf : Fixed C N job) (hcr : ∀ (i : Nat) l, C[i]? = some l → l.length ≤ 100) (hl1 : C.length ≤ 100) (hl2 : cap.length ≤ 100) (hl0 : C[job]? = some l0) (hk : (k : Int) ∈ l0) :
    Calls Try.prog 65 #[.pointer (some ⟨g, 0, none⟩), .int .i64 job, .int .i64 k] w (ForcedPost C cap N job k w) := by
  have hjC := (List.getElem?_eq_some_iff.1 hl0).1
  have hjN : job < N.length := by rw [← hV.sh.cl]; exact hjC
  have hkP : k < P.length := by have := hV.sh.ck job l0 hl0 _ hk; omega
  have hPl := hV.pl
  have hCN := hV.sh.cl
  obtain ⟨rs, hrl, hRS, hrs⟩ := hM.ch.rows hK
  obtain ⟨j1, p1⟩ := hM.places
  obtain ⟨j2, n1⟩ := hM.night
  have hSP := intJ_slc p1
  have hSN := intJ_slc n1
  have c0 := hM.blk.cell_ 0 rfl
  have c1 := hM.blk.cell_ 1 rfl
  have c2 := hM.blk.cell_ 2 rfl
  rw [adr_pos hkP] at c1
  rw [← hrl] at c0
  have HH := hide (And.intro hK (And.intro hV (And.intro hcap (And.intro hf (And.intro hcr (And.intro hl0 (And.intro hk hrs)))))))
  have HS := hide (And.intro hRS (And.intro hSP hSN))
  have hK' := hM.kk
  have HKK := hide hK'
  clear hK hV hcap hf hcr hl0 hk hrs hRS hSP hSN hK' p1 n1
  have h0 : rs ≠ [] := by rintro rfl; simp at hrl; omega
  have h1 : P ≠ [] := by rintro rfl; simp at hkP
  have h2 : N ≠ [] := by rintro rfl; simp at hjN
  have lr : rs.length ≤ 100 := by omega
  have lP : P.length ≤ 100 := by omega
  have lN : N.length ≤ 100 := by omega
  have HL := hide (And.intro hrl (And.intro hPl hCN))
  clear hrl hPl hCN hl1 hl2 hjC
  go_enter Try.func65, Try.ntmps65
  go_wp2_with fail
  have hg : ∀ x ∈ ([⟨4, fun u w' => Own w' w.heap.size 26 1 rwEnc u rs⟩, ⟨9, fun u w' => Own w' w.heap.size 3 1 intEnc u P⟩, ⟨14, fun u w' => Own w' w.heap.size 3 1 intEnc u N⟩] : List Cl), x.Good := fun x hx => by
    simp only [List.mem_cons, List.not_mem_nil, or_false] at hx
    rcases hx with rfl | rfl | rfl <;> exact own_good _ _ _ _ _ _
  refine wp_region_calls 15 [0, 1, 2, 3, 5, 6, 7, 8, 10, 11, 12, 13] [4, 9, 14] [⟨4, fun u w' => Own w' w.heap.size 26 1 rwEnc u rs⟩, ⟨9, fun u w' => Own w' w.heap.size 3 1 intEnc u P⟩, ⟨14, fun u w' => Own w' w.heap.size 3 1 intEnc u N⟩]
    hg (by kernel_rfl) (by kernel_rfl) (by kernel_rfl) (by kernel_rfl) ?_
  apply Exists.intro
  refine ⟨fun W1 hb => ?_, ?_⟩
  · have y0 := Since.cell (Since.later hb c0)
    have y1 := Since.cell (Since.later hb c1)
    have y2 := Since.cell (Since.later hb c2)
    dsimp only [pick, List.filterMap, List.getElem?_cons_succ, List.getElem?_cons_zero]
    repeat (go_big_quiet_step ((fail)))
    exact wpQuiet_nil rfl
  · refine ownWalk_call (args := #[.slice AC rs.length cC]) (⟨4, fun u w' => Own w' w.heap.size 26 1 rwEnc u rs⟩ : Cl) hg rfl rfl rfl rfl rfl (by simp [Act.eval]) (fun _ _ => rfl) (by simp) (by simp) (fun w1 hb => (cloneRow_any AC cC rs w1 (by omega) ((HS.out.1.below hb).more hb.size)).mono (by
      rintro e w'' ⟨A', c', rfl, hb2, hS2, hO⟩
      exact ⟨_, rfl, (hO h0).mono_base hb.size, fun b hb' => (World.ownsRow.lt (hO h0) b hb').1, hb2⟩)) ?_
    intro u0
    refine ownWalk_call (args := #[.slice (some ⟨bp, 0, none⟩) P.length cP]) (⟨9, fun u w' => Own w' w.heap.size 3 1 intEnc u P⟩ : Cl) hg rfl rfl rfl rfl rfl (by simp [Act.eval]) (fun _ _ => rfl) (by simp) (by simp) (fun w1 hb => (cloneInt_any _ cP P w1 (by omega) ((HS.out.2.1.below hb).more hb.size)).mono (by
      rintro e w'' ⟨A', c', rfl, hb2, hS2, hO⟩
      exact ⟨_, rfl, (hO h1).mono_base hb.size, fun b hb' => (World.ownsRow.lt (hO h1) b hb').1, hb2⟩)) ?_
    intro u1
    refine ownWalk_call (args := #[.slice (some ⟨bn, 0, none⟩) N.length cN]) (⟨14, fun u w' => Own w' w.heap.size 3 1 intEnc u N⟩ : Cl) hg rfl rfl rfl rfl rfl (by simp [Act.eval]) (fun _ _ => rfl) (by simp) (by simp) (fun w1 hb => (cloneInt_any _ cN N w1 (by omega) ((HS.out.2.2.below hb).more hb.size)).mono (by
      rintro e w'' ⟨A', c', rfl, hb2, hS2, hO⟩
      exact ⟨_, rfl, (hO h2).mono_base hb.size, fun b hb' => (World.ownsRow.lt (hO h2) b hb').1, hb2⟩)) ?_
    intro u2
    simp only [List.setIfInBounds_toArray, List.set_cons_succ, List.set_cons_zero]
    refine ownWalk_nil ?_
    intro W hB hD
    have o0 : Own W w.heap.size 26 1 rwEnc u0 rs := hD.ok ⟨4, fun u w' => Own w' w.heap.size 26 1 rwEnc u rs⟩ (by simp) u0 rfl
    have o1 : Own W w.heap.size 3 1 intEnc u1 P := hD.ok ⟨9, fun u w' => Own w' w.heap.size 3 1 intEnc u P⟩ (by simp) u1 rfl
    have o2 : Own W w.heap.size 3 1 intEnc u2 N := hD.ok ⟨14, fun u w' => Own w' w.heap.size 3 1 intEnc u N⟩ (by simp) u2 rfl
    have a12 := hD.apart ⟨9, fun u w' => Own w' w.heap.size 3 1 intEnc u P⟩ (by simp) ⟨14, fun u w' => Own w' w.heap.size 3 1 intEnc u N⟩ (by simp) (by simp) u1 u2 rfl rfl
    clear hD hg
    obtain ⟨A0, k0, rfl, _⟩ := o0.form rwEnc_len
    obtain ⟨A1, k1, rfl, _⟩ := o1.form intEnc_len
    obtain ⟨A2, k2, rfl, hk2, _⟩ := o2.form2 intEnc_len
    obtain ⟨b0, js0, rfl, e0, B0⟩ := own_blk (g := rwV) o0 h0
    obtain ⟨b1, js1, rfl, e1, B1⟩ := own_blk (g := Value.int .i64) o1 h1
    obtain ⟨b2, js2, rfl, e2, B2⟩ := own_blk (g := Value.int .i64) o2 h2
    have n12 : b1 ≠ b2 := fun h => a12 b1 rfl (by rw [h]; rfl)
    have n01 := B0.ne_ B1 (by decide)
    have n02 := B0.ne_ B2 (by decide)
    clear o0 o1 o2 a12 c0 c1 c2
    simp only [List.drop_succ_cons, List.drop_zero]
    go_upto_region 2 with fail
    have hG := Blk.new W 80 #[.slice (some ⟨b0, 0, none⟩) rs.length k0, .slice (some ⟨b1, 0, none⟩) P.length k1, .slice (some ⟨b2, 0, none⟩) N.length k2]
    replace B0 := B0.alloc (.cells #[.slice (some ⟨b0, 0, none⟩) rs.length k0, .slice (some ⟨b1, 0, none⟩) P.length k1, .slice (some ⟨b2, 0, none⟩) N.length k2] 80)
    replace B1 := B1.alloc (.cells #[.slice (some ⟨b0, 0, none⟩) rs.length k0, .slice (some ⟨b1, 0, none⟩) P.length k1, .slice (some ⟨b2, 0, none⟩) N.length k2] 80)
    replace B2 := B2.alloc (.cells #[.slice (some ⟨b0, 0, none⟩) rs.length k0, .slice (some ⟨b1, 0, none⟩) P.length k1, .slice (some ⟨b2, 0, none⟩) N.length k2] 80)
    have hsz_bg : (W.alloc (.cells #[.slice (some ⟨b0, 0, none⟩) rs.length k0, .slice (some ⟨b1, 0, none⟩) P.length k1, .slice (some ⟨b2, 0, none⟩) N.length k2] 80)).heap.size = W.heap.size + 1 := by simp
    have bgge := hB.size
    replace hB := hB.alloc hB.size (.cells #[.slice (some ⟨b0, 0, none⟩) rs.length k0, .slice (some ⟨b1, 0, none⟩) P.length k1, .slice (some ⟨b2, 0, none⟩) N.length k2] 80)
    generalize hbg : W.heap.size = bg at *
    generalize W.alloc (.cells #[.slice (some ⟨b0, 0, none⟩) rs.length k0, .slice (some ⟨b1, 0, none⟩) P.length k1, .slice (some ⟨b2, 0, none⟩) N.length k2] 80) = W at *
    clear hbg
    have g0 := hG.cell_ 0 rfl
    have g1 := hG.cell_ 1 rfl
    have g2 := hG.cell_ 2 rfl
    have hjr : (job : Int) < (rs.length : Int) := by have := HL.out.1; have := HL.out.2.2; omega
    have hjn : (job : Int) < (N.length : Int) := by omega
    have hkp : (k : Int) < (P.length : Int) := by omega
    have HSZ : Hid (job < (rs.map rwV ++ js0).toArray.size) := by
      show _ < _
      simp
      omega
    have hkB : Blk (W.alloc (.cells #[.int .i64 k] 3)) (bg + 1) 3 #[.int .i64 k] := by rw [← hsz_bg]; exact Blk.new _ _ _
    have B0a := B0.alloc (.cells #[.int .i64 k] 3)
    go_upto_region 3 with (refine wpList_store_at rfl 26 _ _ rfl (.slice (some ⟨bg + 1, 0, none⟩) 1 1) B0a rfl rfl (by kernel_rfl) rfl HSZ.out rfl ?_; intro W2 B0b hc2)
    have hlt0 := B0.lt
    have hlt1 := B1.lt
    have hlt2 := B2.lt
    have nG0 := B0.ne_ hG (by decide)
    have nG1 := B1.ne_ hG (by decide)
    have nG2 := B2.ne_ hG (by decide)
    have G2 := (hG.alloc (.cells #[.int .i64 k] 3)).chg1 hc2 (Ne.symm nG0)
    have C1 := (B1.alloc (.cells #[.int .i64 k] 3)).chg1 hc2 (Ne.symm n01)
    have C2 := (B2.alloc (.cells #[.int .i64 k] 3)).chg1 hc2 (Ne.symm n02)
    have K2 := hkB.chg1 hc2 (by omega)
    have hB2 : Below w.heap.size w W2 := (hB.alloc hB.size (.cells #[.int .i64 k] 3)).trans ((hc2.below1 (B := w.heap.size) (by simp; have := hB.size; omega) e0))
    have hsz2 := hc2.size
    have hM2 : Mem (fun q => K q ∨ q = b0 ∨ q = bg + 1) W2 bg (some ⟨b0, 0, none⟩) k0 k1 k2 b1 b2 (C.set job [(k : Int)]) N P := by
      refine ⟨?_, rows_nest HL.out.1 HH.out.2.2.2.2.2.2.2 B0b K2 (fun A l hs j x hx => ?_), ⟨js1, C1⟩, ⟨js2, C2⟩, ⟨Ne.symm nG1, Ne.symm nG2, n12⟩, fun b hb => ?_⟩
      · rw [List.length_set, ← HL.out.1, adr_pos hkP]
        exact G2
      · obtain ⟨b, off, q1, q2, q3⟩ := hs j x hx
        exact ⟨b, off, q1, q2, (hB2.cell (p := ⟨b, off + j, none⟩) (HH.out.1 b q2)).trans q3⟩
      · rcases hb with hb | rfl | rfl
        · have := HH.out.1 b hb; omega
        · exact ⟨n01, n02⟩
        · omega
    have hK2 : Hid (∀ b, (K b ∨ b = b0 ∨ b = bg + 1) → b < W2.heap.size) := fun b hb => by
      have h9 := K2.lt
      rcases hb with hb | rfl | rfl
      · exact Nat.lt_of_lt_of_le (HH.out.1 b hb) hB2.size
      · omega
      · omega
    clear B0 B1 B2 hG hkB B0a B0b G2 C1 C2 K2 hlt0 hlt1 hlt2 nG0 nG1 nG2 hc2 hsz2 g0 g1 g2 hsz_bg hB HSZ
    generalize hKK' : (fun q => K q ∨ q = b0 ∨ q = bg + 1) = K2 at hM2
    have hK3 : Hid (∀ b, K2 b → b < W2.heap.size) := by subst hKK'; exact hK2.out
    clear hKK' hK2 HKK
    have HV1 : Hid (∀ N1 P1, VM C cap N1 P1 → ∀ N3 P3, VM (C.set job [(k : Int)]) cap N3 P3 → True) := fun _ _ _ _ _ _ => trivial
    clear HV1
    obtain ⟨u, hu⟩ : ∃ u, N[job]? = some u := ⟨_, List.getElem?_eq_getElem hjN⟩
    have hub := HH.out.2.1.sh.nk job u hu
    have HU := hide hu
    by_cases huk : u = (k : Int)
    · subst huk
      have g2 := hM2.blk.cell_ 2 rfl
      obtain ⟨j2', n1'⟩ := hM2.night
      have nj := n1'.cell_ job (intJ_get hu)
      clear hu
      go_wp2_with fail
      go_ret
      exact ⟨hB2, .inr ⟨K2, bg, _, _, _, _, b1, b2, N, P, rfl, hM2, hK3.out, bgge, e1, e2, Forced.same HH.out.2.1 HH.out.2.2.1 HU.out⟩⟩
    · have hB9 := hB2
      have HK9 := hK3
      obtain ⟨W9, rfl⟩ : ∃ x, x = W2 := ⟨_, rfl⟩
      clear hB2 hK3
      have huk' : (u == (k : Int)) = false := by simpa using huk
      by_cases hun : u = -1
      · subst hun
        have HFR : Hid (Freed C cap N job N P) := ⟨HH.out.2.1, rfl, HU.out, fun _ _ => rfl⟩
        have hM9 := hM2
        have g2 := hM9.blk.cell_ 2 rfl
        obtain ⟨j2', n1'⟩ := hM9.night
        have nj := n1'.cell_ job (intJ_get hu)
        obtain ⟨N9, hN9⟩ : ∃ N9, N9 = N := ⟨_, rfl⟩
        obtain ⟨P9, hP9⟩ : ∃ P9, P9 = P := ⟨_, rfl⟩
        have HFR9 : Hid (Freed C cap N job N9 P9) := by rw [hN9, hP9]; exact HFR
        clear hu hM2
        go_upto_region 9 with fail
        have hM9' : Mem K2 W9 bg (some ⟨b0, 0, none⟩) k0 k1 k2 b1 b2 (C.set job [(k : Int)]) N9 P9 := by rw [hN9, hP9]; exact hM9
        clear hM9 HFR hN9 hP9 g2 nj n1' huk huk' hub
        have hM9 := hM9'
        have HFR := HFR9
        clear hM9' HFR9
        have hkP9 : k < P9.length := by rw [HFR.out.vm.pl, ← HL.out.2.1]; exact hkP
        obtain ⟨p9, hp9⟩ : ∃ p, P9[k]? = some p := ⟨_, List.getElem?_eq_getElem hkP9⟩
        have hpb := HFR.out.vm.sh.pk k p9 hp9
        have HP9 := hide hp9
        clear hp9
        by_cases hpos : 0 < p9
        · have HF := hide (And.intro HFR.out HP9.out)
          clear hkP9 hpb HFR HP9
          have hkP9 : k < P9.length := (List.getElem?_eq_some_iff.1 HF.out.2).1
          have hjN9 : job < N9.length := (List.getElem?_eq_some_iff.1 HF.out.1.at_).1
          have hjn9 : (job : Int) < (N9.length : Int) := by omega
          have hkp9 : (k : Int) < (P9.length : Int) := by omega
          have hpb := HF.out.1.vm.sh.pk k p9 HF.out.2
          have e1' : IntKind.i64.wrap (p9 - 1) = p9 - 1 := IntWalk.i64_in _ (by omega)
          have g1 := hM9.blk.cell_ 1 rfl
          rw [adr_pos hkP9] at g1
          obtain ⟨jj1, p1⟩ := hM9.places
          have pk := p1.cell_ k (intJ_get HF.out.2)
          have HSP := hide (fun js => intJ_lt (l := P9) (js := js) hkP9)
          have HSN := hide (fun js => intJ_lt (l := N9) (js := js) hjN9)
          have hz9 : (p9 == 0) = false := by simp; omega
          have HZ9 := hide (show 0 < p9 by omega)
          go_wp2_with (first | (refine wpList_store_at rfl 3 _ _ rfl (.int .i64 (p9 - 1)) p1 rfl rfl (by kernel_rfl) rfl (HSP.out _) rfl ?_; intro W3 p2 hc3; have hM3 := hM9.setP hkP9 p2 hc3; obtain ⟨jj, n1⟩ := hM3.night; have g2 := hM3.blk.cell_ 2 rfl) | (refine wpList_store_at rfl 3 _ _ rfl (.int .i64 k) n1 rfl rfl (by kernel_rfl) rfl (HSN.out _) rfl ?_; intro W4 n2 hc4; have hM4 := hM3.setN hjN9 n2 hc4))
          have hB4 : Below w.heap.size w W4 := (hB9.trans (hc3.below1 hB9.size e1)).trans (hc4.below1 (Nat.le_trans hB9.size hc3.size) e2)
          have hs34 := Nat.le_trans hc3.size hc4.size
          refine (grow_any K2 bg (some ⟨b0, 0, none⟩) k0 k1 k2 b1 b2 (C.set job [(k : Int)]) cap (row_set HH.out.2.2.2.2.1) (N9.set job k) (P9.set k (p9 - 1)) (by rw [List.length_set, HF.out.1.nl]; exact lN) (by rw [List.length_set, HF.out.1.vm.pl, ← HL.out.2.1]; exact lP) W4 (fun b hb => Nat.lt_of_lt_of_le (HK9.out b hb) hs34) hM4 (HF.out.1.taken HH.out.2.2.1 HF.out.2 HZ9.out)).mono ?_
          rintro e W5 ⟨N', P', rfl, hM5, hC5, hV5, hS5, hKeep⟩
          have HG := hide (HF.out.1.forced HH.out.2.2.1 HH.out.2.2.2.1 HF.out.2 HZ9.out hKeep hV5 hS5)
          have hB5 : Below w.heap.size w W5 := hB4.trans (hC5.to_below hB4.size fun q hq h => by rcases h with h | h <;> omega)
          have HK5 : Hid (∀ b, K2 b → b < W5.heap.size) := fun b hb => Nat.lt_of_lt_of_le (HK9.out b hb) (Nat.le_trans hs34 hC5.size)
          clear hV5 hS5 hKeep hC5 hM4 hM3 p1 p2 n1 n2 hc3 hc4 g1 g2 pk
          go_wp2_with fail
          go_ret
          exact ⟨hB5, .inr ⟨K2, bg, _, _, _, _, b1, b2, N', P', rfl, hM5, HK5.out, bgge, e1, e2, HG.out⟩⟩
        · have hz9 : (p9 == 0) = true := by simp; omega
          have HZ0 := hide (show p9 = 0 by omega)
          have hjN9 : job < N9.length := (List.getElem?_eq_some_iff.1 HFR.out.at_).1
          have hjn9 : (job : Int) < (N9.length : Int) := by omega
          have hkp9 : (k : Int) < (P9.length : Int) := by omega
          have hnc : N9.length ≤ k2 := by rw [HFR.out.nl]; exact hk2
          have g1 := hM9.blk.cell_ 1 rfl
          rw [adr_pos hkP9] at g1
          have g2 := hM9.blk.cell_ 2 rfl
          obtain ⟨jj1, p1⟩ := hM9.places
          obtain ⟨jj2, n1⟩ := hM9.night
          have pk := p1.cell_ k (intJ_get HP9.out)
          obtain ⟨D, hD⟩ : ∃ D, D = N9.drop job := ⟨_, rfl⟩
          have HSD := hide (show Slc intEnc 1 W9 W9.heap.size (dropA (some ⟨b2, 0, none⟩) k2 job 1) D by rw [hD]; exact (intJ_slc n1).dropA_ hnc)
          have hDl : D.length = N9.length - job := by rw [hD, List.length_drop]
          have hs1 : ∀ w', (Instr.sliceAt 26 (.slice (some ⟨b2, 0, none⟩) N9.length k2) (some (.int .i64 job)) none none).run Try.prog w' = .ok (.slice (dropA (some ⟨b2, 0, none⟩) k2 job 1) D.length (k2 - job)) w' := fun w' => by
            rw [hDl]
            exact run_slice_from et_ints (some ⟨b2, 0, none⟩) N9.length k2 job (by omega) w'
          have hDl2 : D.length ≤ 100000 := by have := HFR.out.nl; omega
          have HD := hide hD
          clear hD hDl n1
          go_wp2_with fail
          refine (index_any _ _ _ D k _ hDl2 HSD.out).mono ?_
          rintro e W' ⟨rfl, ⟨rfl, hno⟩ | ⟨i, rfl, hi, hmn⟩⟩
          · have HNO : Hid (NoExt C cap N job k) := fun N'' h1 h2 h3 => by
              refine full_none HFR.out.vm (k := k) (j := job) (by rw [HP9.out, HZ0.out]) (fun i hi hk' => ?_) h1 h2 (fun i hi => (h3 i hi).trans (HFR.out.front i hi).symm)
              refine hno ?_
              rw [HD.out]
              have : (N9.drop job)[i - job]? = some (k : Int) := by rw [List.getElem?_drop, show job + (i - job) = i by omega]; exact hk'
              exact List.mem_of_getElem? this
            clear hno
            go_wp2_with fail
            go_ret
            exact ⟨hB9, .inl ⟨rfl, HNO.out⟩⟩
          · have hi' : N9[job + i]? = some (k : Int) := by rw [HD.out, List.getElem?_drop] at hi; exact hi
            have HI := hide hi'
            have hjiN : job + i < N9.length := (List.getElem?_eq_some_iff.1 hi').1
            have hjin : ((job + i : Nat) : Int) < (N9.length : Int) := by omega
            have e4 : IntKind.i64.wrap ((job : Int) + (i : Int)) = ((job + i : Nat) : Int) := by rw [IntWalk.i64_in _ (by have := HFR.out.nl; omega)]; omega
            have e5 : IntKind.i64.wrap (p9 + 1) = p9 + 1 := IntWalk.i64_in _ (by omega)
            have hnj : i ≠ 0 := by
              rintro rfl
              have h7 := HFR.out.at_
              rw [Nat.add_zero] at hi'
              rw [hi'] at h7
              injection h7 with h7
              omega
            have HFR2 : Hid (Freed C cap N job (N9.set (job + i) (-1)) (P9.set k (p9 + 1))) := by
              refine ⟨HFR.out.vm.free HH.out.2.2.1 hi' HP9.out, by rw [List.length_set]; exact HFR.out.nl, ?_, fun q hq => ?_⟩
              · rw [List.getElem?_set_ne (by omega)]; exact HFR.out.at_
              · rw [List.getElem?_set_ne (by omega)]; exact HFR.out.front q hq
            have HSP := hide (fun js => intJ_lt (l := P9) (js := js) hkP9)
            have HSN := hide (fun js => intJ_lt (l := N9) (js := js) hjiN)
            obtain ⟨jj3, n1⟩ := hM9.night
            clear hi hi' hs1 hmn
            go_upto_region 15 with (first | (refine wpList_store_at rfl 3 _ _ rfl (.int .i64 (-1)) n1 rfl rfl (by kernel_rfl) rfl (HSN.out _) rfl ?_; intro W3 n2 hc3; have hM3 := hM9.setN hjiN n2 hc3; obtain ⟨jj4, p3⟩ := hM3.places; have g1' := hM3.blk.cell_ 1 rfl; rw [adr_pos hkP9] at g1'; have pk' := p3.cell_ k (intJ_get HP9.out)) | (refine wpList_store_at rfl 3 _ _ rfl (.int .i64 (p9 + 1)) p3 rfl rfl (by kernel_rfl) rfl (HSP.out _) rfl ?_; intro W4 p4 hc4; have hM4 := hM3.setP hkP9 p4 hc4))
            have hB4 : Below w.heap.size w W4 := (hB9.trans (hc3.below1 hB9.size e2)).trans (hc4.below1 (Nat.le_trans hB9.size hc3.size) e1)
            have HK4 : Hid (∀ b, K2 b → b < W4.heap.size) := fun b hb => Nat.lt_of_lt_of_le (HK9.out b hb) (Nat.le_trans hc3.size hc4.size)
            have HP10 : Hid ((P9.set k (p9 + 1))[k]? = some (p9 + 1)) := List.getElem?_set_self hkP9
            have hpos2 : 0 < p9 + 1 := by omega
            generalize N9.set (job + i) (-1) = N10 at *
            generalize P9.set k (p9 + 1) = P10 at *
            generalize p9 + 1 = p10 at *
            have HF := hide (And.intro HFR2.out HP10.out)
            clear hM9 hM3 hB9 HK9 HFR HFR2 HP9 HP10 p1 p3 p4 n1 n2 g1 g2 g1' pk pk' hz9 HZ0 hjN9 hjn9 hkp9 hkP9 hnc HSD HD hDl2 hjiN hjin e4 e5 hnj HSP HSN hc3 hc4 HI hpos hpb
            obtain ⟨N9, rfl⟩ : ∃ x, x = N10 := ⟨_, rfl⟩
            obtain ⟨P9, rfl⟩ : ∃ x, x = P10 := ⟨_, rfl⟩
            obtain ⟨p9, rfl⟩ : ∃ x, x = p10 := ⟨_, rfl⟩
            obtain ⟨W9, rfl⟩ : ∃ x, x = W4 := ⟨_, rfl⟩
            have hM9 := hM4
            have hB9 := hB4
            have HK9 := HK4
            clear hM4 hB4 HK4
            have hkP9 : k < P9.length := (List.getElem?_eq_some_iff.1 HF.out.2).1
            have hjN9 : job < N9.length := (List.getElem?_eq_some_iff.1 HF.out.1.at_).1
            have hjn9 : (job : Int) < (N9.length : Int) := by omega
            have hkp9 : (k : Int) < (P9.length : Int) := by omega
            have hpb := HF.out.1.vm.sh.pk k p9 HF.out.2
            have e1' : IntKind.i64.wrap (p9 - 1) = p9 - 1 := IntWalk.i64_in _ (by omega)
            have g1 := hM9.blk.cell_ 1 rfl
            rw [adr_pos hkP9] at g1
            obtain ⟨jj1, p1⟩ := hM9.places
            have pk := p1.cell_ k (intJ_get HF.out.2)
            have HSP := hide (fun js => intJ_lt (l := P9) (js := js) hkP9)
            have HSN := hide (fun js => intJ_lt (l := N9) (js := js) hjN9)
            have hz9 : (p9 == 0) = false := by simp; omega
            have HZ9 := hide (show 0 < p9 by omega)
            go_wp2_with (first | (refine wpList_store_at rfl 3 _ _ rfl (.int .i64 (p9 - 1)) p1 rfl rfl (by kernel_rfl) rfl (HSP.out _) rfl ?_; intro W3 p2 hc3; have hM3 := hM9.setP hkP9 p2 hc3; obtain ⟨jj, n1⟩ := hM3.night; have g2 := hM3.blk.cell_ 2 rfl) | (refine wpList_store_at rfl 3 _ _ rfl (.int .i64 k) n1 rfl rfl (by kernel_rfl) rfl (HSN.out _) rfl ?_; intro W4 n2 hc4; have hM4 := hM3.setN hjN9 n2 hc4))
            have hB4 : Below w.heap.size w W4 := (hB9.trans (hc3.below1 hB9.size e1)).trans (hc4.below1 (Nat.le_trans hB9.size hc3.size) e2)
            have hs34 := Nat.le_trans hc3.size hc4.size
            refine (grow_any K2 bg (some ⟨b0, 0, none⟩) k0 k1 k2 b1 b2 (C.set job [(k : Int)]) cap (row_set HH.out.2.2.2.2.1) (N9.set job k) (P9.set k (p9 - 1)) (by rw [List.length_set, HF.out.1.nl]; exact lN) (by rw [List.length_set, HF.out.1.vm.pl, ← HL.out.2.1]; exact lP) W4 (fun b hb => Nat.lt_of_lt_of_le (HK9.out b hb) hs34) hM4 (HF.out.1.taken HH.out.2.2.1 HF.out.2 HZ9.out)).mono ?_
            rintro e W5 ⟨N', P', rfl, hM5, hC5, hV5, hS5, hKeep⟩
            have HG := hide (HF.out.1.forced HH.out.2.2.1 HH.out.2.2.2.1 HF.out.2 HZ9.out hKeep hV5 hS5)
            have hB5 : Below w.heap.size w W5 := hB4.trans (hC5.to_below hB4.size fun q hq h => by rcases h with h | h <;> omega)
            have HK5 : Hid (∀ b, K2 b → b < W5.heap.size) := fun b hb => Nat.lt_of_lt_of_le (HK9.out b hb) (Nat.le_trans hs34 hC5.size)
            clear hV5 hS5 hKeep hC5 hM4 hM3 p1 p2 n1 n2 hc3 hc4 g1 g2 pk
            go_wp2_with fail
            go_ret
            exact ⟨hB5, .inr ⟨K2, bg, _, _, _, _, b1, b2, N', P', rfl, hM5, HK5.out, bgge, e1, e2, HG.out⟩⟩
      · obtain ⟨a, rfl⟩ : ∃ a : Nat, u = a := ⟨u.toNat, by omega⟩
        have haP : a < P.length := by omega
        obtain ⟨p, hp⟩ : ∃ p, P[a]? = some p := ⟨_, List.getElem?_eq_getElem haP⟩
        have hpb := HH.out.2.1.sh.pk a p hp
        have hap : (a : Int) < (P.length : Int) := by omega
        have e4 : IntKind.i64.wrap (p + 1) = p + 1 := IntWalk.i64_in _ (by omega)
        have HFR : Hid (Freed C cap N job (N.set job (-1)) (P.set a (p + 1))) := ⟨HH.out.2.1.free HH.out.2.2.1 HU.out hp, by simp, List.getElem?_set_self hjN, fun i hi => by rw [List.getElem?_set_ne (by omega)]⟩
        have g2 := hM2.blk.cell_ 2 rfl
        have g1 := hM2.blk.cell_ 1 rfl
        rw [adr_pos hkP] at g1
        obtain ⟨j1', p1'⟩ := hM2.places
        obtain ⟨j2', n1'⟩ := hM2.night
        have nj := n1'.cell_ job (intJ_get hu)
        have pa := p1'.cell_ a (intJ_get hp)
        have HSP := hide (fun js => intJ_lt (l := P) (js := js) haP)
        have HSN := hide (fun js => intJ_lt (l := N) (js := js) hjN)
        clear hu hp n1'
        go_upto_region 9 with (first | (refine wpList_store_at rfl 3 _ _ rfl (.int .i64 (p + 1)) p1' rfl rfl (by kernel_rfl) rfl (HSP.out _) rfl ?_; intro W3 p2' hc3; have hM3 := hM2.setP haP p2' hc3; obtain ⟨j3', n3'⟩ := hM3.night; have g2' := hM3.blk.cell_ 2 rfl) | (refine wpList_store_at rfl 3 _ _ rfl (.int .i64 (-1)) n3' rfl rfl (by kernel_rfl) rfl (HSN.out _) rfl ?_; intro W4 n2' hc4; have hM4 := hM3.setN hjN n2' hc4))
        have hB4 : Below w.heap.size w W4 := (hB9.trans (hc3.below1 hB9.size e1)).trans (hc4.below1 (Nat.le_trans hB9.size hc3.size) e2)
        have HK4 : Hid (∀ b, K2 b → b < W4.heap.size) := fun b hb => Nat.lt_of_lt_of_le (HK9.out b hb) (Nat.le_trans hc3.size hc4.size)
        generalize N.set job (-1) = N9 at HFR hM4 ⊢
        generalize P.set a (p + 1) = P9 at HFR hM4 ⊢
        clear hM2 hM3 hB9 HK9 g1 g2 g2' p1' p2' n2' n3' nj pa HSP HSN hc3 hc4 huk huk' hub hun e4 hpb hap
        clear W9
        obtain ⟨W9, rfl⟩ : ∃ x, x = W4 := ⟨_, rfl⟩
        have hM9 := hM4
        have hB9 := hB4
        have HK9 := HK4
        clear hM4 hB4 HK4
        have hkP9 : k < P9.length := by rw [HFR.out.vm.pl, ← HL.out.2.1]; exact hkP
        obtain ⟨p9, hp9⟩ : ∃ p, P9[k]? = some p := ⟨_, List.getElem?_eq_getElem hkP9⟩
        have hpb := HFR.out.vm.sh.pk k p9 hp9
        have HP9 := hide hp9
        clear hp9
        by_cases hpos : 0 < p9
        · have HF := hide (And.intro HFR.out HP9.out)
          clear hkP9 hpb HFR HP9
          have hkP9 : k < P9.length := (List.getElem?_eq_some_iff.1 HF.out.2).1
          have hjN9 : job < N9.length := (List.getElem?_eq_some_iff.1 HF.out.1.at_).1
          have hjn9 : (job : Int) < (N9.length : Int) := by omega
          have hkp9 : (k : Int) < (P9.length : Int) := by omega
          have hpb := HF.out.1.vm.sh.pk k p9 HF.out.2
          have e1' : IntKind.i64.wrap (p9 - 1) = p9 - 1 := IntWalk.i64_in _ (by omega)
          have g1 := hM9.blk.cell_ 1 rfl
          rw [adr_pos hkP9] at g1
          obtain ⟨jj1, p1⟩ := hM9.places
          have pk := p1.cell_ k (intJ_get HF.out.2)
          have HSP := hide (fun js => intJ_lt (l := P9) (js := js) hkP9)
          have HSN := hide (fun js => intJ_lt (l := N9) (js := js) hjN9)
          have hz9 : (p9 == 0) = false := by simp; omega
          have HZ9 := hide (show 0 < p9 by omega)
          go_wp2_with (first | (refine wpList_store_at rfl 3 _ _ rfl (.int .i64 (p9 - 1)) p1 rfl rfl (by kernel_rfl) rfl (HSP.out _) rfl ?_; intro W3 p2 hc3; have hM3 := hM9.setP hkP9 p2 hc3; obtain ⟨jj, n1⟩ := hM3.night; have g2 := hM3.blk.cell_ 2 rfl) | (refine wpList_store_at rfl 3 _ _ rfl (.int .i64 k) n1 rfl rfl (by kernel_rfl) rfl (HSN.out _) rfl ?_; intro W4 n2 hc4; have hM4 := hM3.setN hjN9 n2 hc4))
          have hB4 : Below w.heap.size w W4 := (hB9.trans (hc3.below1 hB9.size e1)).trans (hc4.below1 (Nat.le_trans hB9.size hc3.size) e2)
          have hs34 := Nat.le_trans hc3.size hc4.size
          refine (grow_any K2 bg (some ⟨b0, 0, none⟩) k0 k1 k2 b1 b2 (C.set job [(k : Int)]) cap (row_set HH.out.2.2.2.2.1) (N9.set job k) (P9.set k (p9 - 1)) (by rw [List.length_set, HF.out.1.nl]; exact lN) (by rw [List.length_set, HF.out.1.vm.pl, ← HL.out.2.1]; exact lP) W4 (fun b hb => Nat.lt_of_lt_of_le (HK9.out b hb) hs34) hM4 (HF.out.1.taken HH.out.2.2.1 HF.out.2 HZ9.out)).mono ?_
          rintro e W5 ⟨N', P', rfl, hM5, hC5, hV5, hS5, hKeep⟩
          have HG := hide (HF.out.1.forced HH.out.2.2.1 HH.out.2.2.2.1 HF.out.2 HZ9.out hKeep hV5 hS5)
          have hB5 : Below w.heap.size w W5 := hB4.trans (hC5.to_below hB4.size fun q hq h => by rcases h with h | h <;> omega)
          have HK5 : Hid (∀ b, K2 b → b < W5.heap.size) := fun b hb => Nat.lt_of_lt_of_le (HK9.out b hb) (Nat.le_trans hs34 hC5.size)
          clear hV5 hS5 hKeep hC5 hM4 hM3 p1 p2 n1 n2 hc3 hc4 g1 g2 pk
          go_wp2_with fail
          go_ret
          exact ⟨hB5, .inr ⟨K2, bg, _, _, _, _, b1, b2, N', P', rfl, hM5, HK5.out, bgge, e1, e2, HG.out⟩⟩
        · have hz9 : (p9 == 0) = true := by simp; omega
          have HZ0 := hide (show p9 = 0 by omega)
          have hjN9 : job < N9.length := (List.getElem?_eq_some_iff.1 HFR.out.at_).1
          have hjn9 : (job : Int) < (N9.length : Int) := by omega
          have hkp9 : (k : Int) < (P9.length : Int) := by omega
          have hnc : N9.length ≤ k2 := by rw [HFR.out.nl]; exact hk2
          have g1 := hM9.blk.cell_ 1 rfl
          rw [adr_pos hkP9] at g1
          have g2 := hM9.blk.cell_ 2 rfl
          obtain ⟨jj1, p1⟩ := hM9.places
          obtain ⟨jj2, n1⟩ := hM9.night
          have pk := p1.cell_ k (intJ_get HP9.out)
          obtain ⟨D, hD⟩ : ∃ D, D = N9.drop job := ⟨_, rfl⟩
          have HSD := hide (show Slc intEnc 1 W9 W9.heap.size (dropA (some ⟨b2, 0, none⟩) k2 job 1) D by rw [hD]; exact (intJ_slc n1).dropA_ hnc)
          have hDl : D.length = N9.length - job := by rw [hD, List.length_drop]
          have hs1 : ∀ w', (Instr.sliceAt 26 (.slice (some ⟨b2, 0, none⟩) N9.length k2) (some (.int .i64 job)) none none).run Try.prog w' = .ok (.slice (dropA (some ⟨b2, 0, none⟩) k2 job 1) D.length (k2 - job)) w' := fun w' => by
            rw [hDl]
            exact run_slice_from et_ints (some ⟨b2, 0, none⟩) N9.length k2 job (by omega) w'
          have hDl2 : D.length ≤ 100000 := by have := HFR.out.nl; omega
          have HD := hide hD
          clear hD hDl n1
          go_wp2_with fail
          refine (index_any _ _ _ D k _ hDl2 HSD.out).mono ?_
          rintro e W' ⟨rfl, ⟨rfl, hno⟩ | ⟨i, rfl, hi, hmn⟩⟩
          · have HNO : Hid (NoExt C cap N job k) := fun N'' h1 h2 h3 => by
              refine full_none HFR.out.vm (k := k) (j := job) (by rw [HP9.out, HZ0.out]) (fun i hi hk' => ?_) h1 h2 (fun i hi => (h3 i hi).trans (HFR.out.front i hi).symm)
              refine hno ?_
              rw [HD.out]
              have : (N9.drop job)[i - job]? = some (k : Int) := by rw [List.getElem?_drop, show job + (i - job) = i by omega]; exact hk'
              exact List.mem_of_getElem? this
            clear hno
            go_wp2_with fail
            go_ret
            exact ⟨hB9, .inl ⟨rfl, HNO.out⟩⟩
          · have hi' : N9[job + i]? = some (k : Int) := by rw [HD.out, List.getElem?_drop] at hi; exact hi
            have HI := hide hi'
            have hjiN : job + i < N9.length := (List.getElem?_eq_some_iff.1 hi').1
            have hjin : ((job + i : Nat) : Int) < (N9.length : Int) := by omega
            have e4 : IntKind.i64.wrap ((job : Int) + (i : Int)) = ((job + i : Nat) : Int) := by rw [IntWalk.i64_in _ (by have := HFR.out.nl; omega)]; omega
            have e5 : IntKind.i64.wrap (p9 + 1) = p9 + 1 := IntWalk.i64_in _ (by omega)
            have hnj : i ≠ 0 := by
              rintro rfl
              have h7 := HFR.out.at_
              rw [Nat.add_zero] at hi'
              rw [hi'] at h7
              injection h7 with h7
              omega
            have HFR2 : Hid (Freed C cap N job (N9.set (job + i) (-1)) (P9.set k (p9 + 1))) := by
              refine ⟨HFR.out.vm.free HH.out.2.2.1 hi' HP9.out, by rw [List.length_set]; exact HFR.out.nl, ?_, fun q hq => ?_⟩
              · rw [List.getElem?_set_ne (by omega)]; exact HFR.out.at_
              · rw [List.getElem?_set_ne (by omega)]; exact HFR.out.front q hq
            have HSP := hide (fun js => intJ_lt (l := P9) (js := js) hkP9)
            have HSN := hide (fun js => intJ_lt (l := N9) (js := js) hjiN)
            obtain ⟨jj3, n1⟩ := hM9.night
            clear hi hi' hs1 hmn
            go_upto_region 15 with (first | (refine wpList_store_at rfl 3 _ _ rfl (.int .i64 (-1)) n1 rfl rfl (by kernel_rfl) rfl (HSN.out _) rfl ?_; intro W3 n2 hc3; have hM3 := hM9.setN hjiN n2 hc3; obtain ⟨jj4, p3⟩ := hM3.places; have g1' := hM3.blk.cell_ 1 rfl; rw [adr_pos hkP9] at g1'; have pk' := p3.cell_ k (intJ_get HP9.out)) | (refine wpList_store_at rfl 3 _ _ rfl (.int .i64 (p9 + 1)) p3 rfl rfl (by kernel_rfl) rfl (HSP.out _) rfl ?_; intro W4 p4 hc4; have hM4 := hM3.setP hkP9 p4 hc4))
            have hB4 : Below w.heap.size w W4 := (hB9.trans (hc3.below1 hB9.size e2)).trans (hc4.below1 (Nat.le_trans hB9.size hc3.size) e1)
            have HK4 : Hid (∀ b, K2 b → b < W4.heap.size) := fun b hb => Nat.lt_of_lt_of_le (HK9.out b hb) (Nat.le_trans hc3.size hc4.size)
            have HP10 : Hid ((P9.set k (p9 + 1))[k]? = some (p9 + 1)) := List.getElem?_set_self hkP9
            have hpos2 : 0 < p9 + 1 := by omega
            generalize N9.set (job + i) (-1) = N10 at *
            generalize P9.set k (p9 + 1) = P10 at *
            generalize p9 + 1 = p10 at *
            have HF := hide (And.intro HFR2.out HP10.out)
            clear hM9 hM3 hB9 HK9 HFR HFR2 HP9 HP10 p1 p3 p4 n1 n2 g1 g2 g1' pk pk' hz9 HZ0 hjN9 hjn9 hkp9 hkP9 hnc HSD HD hDl2 hjiN hjin e4 e5 hnj HSP HSN hc3 hc4 HI hpos hpb
            obtain ⟨N9, rfl⟩ : ∃ x, x = N10 := ⟨_, rfl⟩
            obtain ⟨P9, rfl⟩ : ∃ x, x = P10 := ⟨_, rfl⟩
            obtain ⟨p9, rfl⟩ : ∃ x, x = p10 := ⟨_, rfl⟩
            obtain ⟨W9, rfl⟩ : ∃ x, x = W4 := ⟨_, rfl⟩
            have hM9 := hM4
            have hB9 := hB4
            have HK9 := HK4
            clear hM4 hB4 HK4
            have hkP9 : k < P9.length := (List.getElem?_eq_some_iff.1 HF.out.2).1
            have hjN9 : job < N9.length := (List.getElem?_eq_some_iff.1 HF.out.1.at_).1
            have hjn9 : (job : Int) < (N9.length : Int) := by omega
            have hkp9 : (k : Int) < (P9.length : Int) := by omega
            have hpb := HF.out.1.vm.sh.pk k p9 HF.out.2
            have e1' : IntKind.i64.wrap (p9 - 1) = p9 - 1 := IntWalk.i64_in _ (by omega)
            have g1 := hM9.blk.cell_ 1 rfl
            rw [adr_pos hkP9] at g1
            obtain ⟨jj1, p1⟩ := hM9.places
            have pk := p1.cell_ k (intJ_get HF.out.2)
            have HSP := hide (fun js => intJ_lt (l := P9) (js := js) hkP9)
            have HSN := hide (fun js => intJ_lt (l := N9) (js := js) hjN9)
            have hz9 : (p9 == 0) = false := by simp; omega
            have HZ9 := hide (show 0 < p9 by omega)
            go_wp2_with (first | (refine wpList_store_at rfl 3 _ _ rfl (.int .i64 (p9 - 1)) p1 rfl rfl (by kernel_rfl) rfl (HSP.out _) rfl ?_; intro W3 p2 hc3; have hM3 := hM9.setP hkP9 p2 hc3; obtain ⟨jj, n1⟩ := hM3.night; have g2 := hM3.blk.cell_ 2 rfl) | (refine wpList_store_at rfl 3 _ _ rfl (.int .i64 k) n1 rfl rfl (by kernel_rfl) rfl (HSN.out _) rfl ?_; intro W4 n2 hc4; have hM4 := hM3.setN hjN9 n2 hc4))
            have hB4 : Below w.heap.size w W4 := (hB9.trans (hc3.below1 hB9.size e1)).trans (hc4.below1 (Nat.le_trans hB9.size hc3.size) e2)
            have hs34 := Nat.le_trans hc3.size hc4.size
            refine (grow_any K2 bg (some ⟨b0, 0, none⟩) k0 k1 k2 b1 b2 (C.set job [(k : Int)]) cap (row_set HH.out.2.2.2.2.1) (N9.set job k) (P9.set k (p9 - 1)) (by rw [List.length_set, HF.out.1.nl]; exact lN) (by rw [List.length_set, HF.out.1.vm.pl, ← HL.out.2.1]; exact lP) W4 (fun b hb => Nat.lt_of_lt_of_le (HK9.out b hb) hs34) hM4 (HF.out.1.taken HH.out.2.2.1 HF.out.2 HZ9.out)).mono ?_
            rintro e W5 ⟨N', P', rfl, hM5, hC5, hV5, hS5, hKeep⟩
            have HG := hide (HF.out.1.forced HH.out.2.2.1 HH.out.2.2.2.1 HF.out.2 HZ9.out hKeep hV5 hS5)
            have hB5 : Below w.heap.size w W5 := hB4.trans (hC5.to_below hB4.size fun q hq h => by rcases h with h | h <;> omega)
            have HK5 : Hid (∀ b, K2 b → b < W5.heap.size) := fun b hb => Nat.lt_of_lt_of_le (HK9.out b hb) (Nat.le_trans hs34 hC5.size)
            clear hV5 hS5 hKeep hC5 hM4 hM3 p1 p2 n1 n2 hc3 hc4 g1 g2 pk
            go_wp2_with fail
            go_ret
            exact ⟨hB5, .inr ⟨K2, bg, _, _, _, _, b1, b2, N', P', rfl, hM5, HK5.out, bgge, e1, e2, HG.out⟩⟩
end Go.Proofs.Ytkcfalehebacpaa
