/- Parts of the proofs of this seat: Pull. Each part says what it proves; no condition beyond those stated there. -/
import Derived.Deep.DeepCutAuto
import Derived.Test.YtcpnfcnobnjhdaaB26
import Derived.Test.YtcpnfcnobnjhdaaB29

/- Pull of package shop: the walk. -/
namespace Go.Proofs.Ytcpnfcnobnjhdaa
open Go Go.Sort Go.RowKit StabAt
structure DR (p : Shop) (R : List At) (D : Desk) : Prop where
  last : ∀ m, look D.last m = lastP (onB m) R
  onl : D.on.length = p.jobs.length
  on : ∀ j, j < p.jobs.length → D.on[j]? = some (rdyR R j)
  plan : D.plan = planR p R
theorem rdyR_snoc (R : List At) (a : At) (j : Nat) : rdyR (R ++ [a]) j = if a.j = j then a.dry else rdyR R j := by
  unfold rdyR
  rw [lastP_snoc]
  by_cases h : a.j = j <;> simp [ofJ, h]
theorem tOf_nil (j k : Nat) : tOf [] j k = 0 := rfl
theorem tOf_snoc {R : List At} {a : At} (h : ∀ b ∈ R, b.j = a.j → b.k ≠ a.k) (j k : Nat) : tOf (R ++ [a]) j k = if j = a.j ∧ k = a.k then a.t else tOf R j k := by
  unfold tOf
  rw [List.find?_append]
  by_cases hjk : j = a.j ∧ k = a.k
  · obtain ⟨rfl, rfl⟩ := hjk
    have : R.find? (fun b => decide (b.j = a.j) && decide (b.k = a.k)) = none := by
      rw [List.find?_eq_none]
      intro b hb
      simp only [Bool.and_eq_true, decide_eq_true_eq, not_and]
      exact h b hb
    rw [this]
    simp
  · rw [if_neg hjk]
    have : ([a].find? fun b => decide (b.j = j) && decide (b.k = k)) = none := by
      rw [List.find?_eq_none]
      intro b hb
      simp at hb
      subst hb
      simp only [Bool.and_eq_true, decide_eq_true_eq]
      exact fun h => hjk ⟨h.1.symm, h.2.symm⟩
    rw [this, Option.or_none]
theorem DR.start (p : Shop) : DR p [] (desk0 p) := by
  refine ⟨fun m => rfl, by simp [desk0], fun j hj => by simp [desk0, List.getElem?_replicate, hj, rdyR, lastP_nil], ?_⟩
  unfold desk0 planR
  apply List.ext_getElem?
  intro i
  simp only [List.getElem?_map, List.getElem?_zipIdx]
  cases h : p.jobs[i]? with
  | none => rfl
  | some s =>
    simp only [Option.map_some, tOf_nil]
    congr 1
    apply List.ext_getElem?
    intro k
    simp only [List.getElem?_replicate, List.getElem?_map, List.getElem?_range']
    by_cases hk : k < s.length
    · rw [if_pos hk, List.getElem?_range hk]; rfl
    · rw [if_neg hk, List.getElem?_eq_none (by simp; omega)]; rfl
theorem DR.put_ {p : Shop} {R : List At} {D : Desk} (h : DR p R D) {a : At} {s : List Step} (hs : p.jobs[a.j]? = some s) (hk : a.k < s.length) (hn : ∀ b ∈ R, b.j = a.j → b.k ≠ a.k) : DR p (R ++ [a]) (D.put a) := by
  have hj := (List.getElem?_eq_some_iff.1 hs).1
  refine ⟨fun m => ?_, by simpa [Desk.put] using h.onl, fun j hjl => ?_, ?_⟩
  · show look (Go.Proofs.Ytcpnfcnobnjhdaa.put D.last a.x.m a) m = _
    rw [look_put, lastP_snoc, h.last]
    by_cases hm : m = a.x.m
    · subst hm; simp [onB]
    · rw [if_neg hm, if_neg (by simp only [onB, decide_eq_true_eq]; exact fun h => hm h.symm)]
  · show (D.on.set a.j a.dry)[j]? = _
    rw [rdyR_snoc, List.getElem?_set]
    by_cases hja : a.j = j
    · rw [if_pos hja, if_pos (by rw [h.onl]; exact hj), if_pos hja]
    · rw [if_neg hja, if_neg hja]; exact h.on j hjl
  · show D.plan.modify a.j (fun l => l.set a.k a.t) = _
    rw [h.plan]
    apply List.ext_getElem?
    intro i
    rw [List.getElem?_modify]
    cases hi : p.jobs[i]? with
    | none =>
      have h1 : (planR p R)[i]? = none := List.getElem?_eq_none (by rw [planR_len]; exact List.getElem?_eq_none_iff.1 hi)
      have h2 : (planR p (R ++ [a]))[i]? = none := List.getElem?_eq_none (by rw [planR_len]; exact List.getElem?_eq_none_iff.1 hi)
      rw [h1, h2]; rfl
    | some s' =>
      rw [planR_row hi, planR_row hi]
      simp only [Option.map_eq_map, Option.map_some]
      congr 1
      by_cases hai : a.j = i
      · subst hai
        rw [hs] at hi
        injection hi with hi
        subst hi
        simp only [if_true]
        apply List.ext_getElem?
        intro k
        rw [List.getElem?_set, List.getElem?_map, List.getElem?_map]
        by_cases hak : a.k = k
        · subst hak
          rw [if_pos rfl, if_pos (by simpa using hk), List.getElem?_range hk]
          simp [tOf_snoc hn]
        · rw [if_neg hak]
          by_cases hkl : k < s.length
          · rw [List.getElem?_range hkl]
            simp only [Option.map_some, tOf_snoc hn]
            rw [if_neg (fun h => hak h.2.symm)]
          · rw [List.getElem?_eq_none (by simp; omega)]; rfl
      · simp only [if_neg hai, id]
        apply List.map_congr_left
        intro k _
        rw [tOf_snoc hn, if_neg (fun h => hai h.1.symm)]
theorem DR.earl {p : Shop} {R : List At} {D : Desk} (h : DR p R D) {a : At} (hj : a.j < p.jobs.length) : earlF p D a.j a.x = startF p R a := by
  have h1 : D.on.getD a.j 0 = rdyR R a.j := by rw [List.getD_eq_getElem?_getD, h.on a.j hj]; rfl
  unfold earlF startF fromR
  rw [h.last, h1]
  cases lastP (onB a.x.m) R <;> rfl
theorem Slc.chg_ {α : Type} {enc : α → List Value} {sz : Nat} {w w' : World} {B : Nat} {A : Option Addr} {xs : List α} {S : Nat → Prop} (h : Slc enc sz w B A xs) (hc : Chg S w w') (hB : B ≤ w.heap.size) (hS : ∀ k, k < B → ¬ S k) : Slc enc sz w' B A xs :=
  h.keep fun p hp => World.cell?_of_block (hc.block _ (Nat.lt_of_lt_of_le hp hB) (hS _ hp))
theorem Placed.fit {p : Shop} (hv : VShop p) {R : List At} (hq : SeqOk p R) (h : Placed p R) {b : At} (hb : b ∈ R) : AtFit p b := by
  obtain ⟨i, hi⟩ := List.getElem?_of_mem hb
  have h1 := (h i b hi).2
  have h2 := hq.step hv hb
  have v1 := hv.op0
  have v2 := hv.cl
  exact ⟨h1.1, by omega, by omega, by omega, by omega, by omega, by omega, by omega⟩
theorem rdyR_le {p : Shop} (hv : VShop p) {R : List At} (hq : SeqOk p R) (h : Placed p R) (i j : Nat) : rdyR (R.take i) j ≤ 1000000000 := by
  unfold rdyR
  cases hl : lastP (ofJ j) (R.take i) with
  | none => show (0 : Int) ≤ _; omega
  | some b =>
    obtain ⟨i', h1, _, _⟩ := lastP_some hl
    obtain ⟨_, h1⟩ := take_get h1
    have h2 := h i' b h1
    have h3 := (Placed.fit hv hq h (List.mem_of_getElem? h1))
    have := h3.mi1
    have := h3.d1
    show b.t + b.x.mi + b.x.d ≤ _
    omega
noncomputable def pullV (p : Shop) (pl : List (List Int)) : List (List Int) := if (judgeF p pl).2.2 = 0 then pullF p pl else []
def PullPost (p : Shop) (pl : List (List Int)) (w : World) (e : Ending) (w' : World) : Prop := ∃ A c, e = .returned (.tuple #[.slice A (pullV p pl).length c, .int .i64 (judgeF p pl).2.2]) ∧ Below w.heap.size w w' ∧ Plan w' w'.heap.size A (pullV p pl)
set_option maxRecDepth 100000 in
set_option maxHeartbeats 4000000 in
theorem pull_any (s : Sh) (A : Option Addr) (c : Nat) (pl : List (List Int)) (w : World) (hS : ShAt w w.heap.size s) (hvB : validShop s.p = true) (hP : Plan w w.heap.size A pl) (hf : PFits pl) :
    Calls Try.prog 44 #[.agg #[.int .i64 s.p.op, .int .i64 s.p.cl, .slice s.aH s.p.hol.length s.cH, .int .i64 s.p.mach, .slice s.aS s.p.setup.length s.cS, .slice s.aJ s.p.jobs.length s.cJ], .slice A pl.length c] w (PullPost s.p pl w) := by
  have hv := valid_facts hvB
  have hjn := hv.jobn
  have hk := Blk.new w 25 #[.int .i64 s.p.op, .int .i64 s.p.cl, .slice s.aH s.p.hol.length s.cH, .int .i64 s.p.mach, .slice s.aS s.p.setup.length s.cS, .slice s.aJ s.p.jobs.length s.cJ]
  have hB := (Below.refl w.heap.size w).alloc (Nat.le_refl _) (.cells #[.int .i64 s.p.op, .int .i64 s.p.cl, .slice s.aH s.p.hol.length s.cH, .int .i64 s.p.mach, .slice s.aS s.p.setup.length s.cS, .slice s.aJ s.p.jobs.length s.cJ] 25)
  go_enter Try.func44, Try.ntmps44
  go_wp2_with fail
  generalize w.alloc (.cells #[.int .i64 s.p.op, .int .i64 s.p.cl, .slice s.aH s.p.hol.length s.cH, .int .i64 s.p.mach, .slice s.aS s.p.setup.length s.cS, .slice s.aJ s.p.jobs.length s.cJ] 25) = W at *
  have c0 := hk.cell_ 0 rfl
  have c1 := hk.cell_ 1 rfl
  have c2 := hk.cell_ 2 rfl
  have c3 := hk.cell_ 3 rfl
  have c4 := hk.cell_ 4 rfl
  have c5 := hk.cell_ 5 rfl
  go_wp2_with fail
  refine (right_any s A c pl _ (hS.on hB) hvB (hP.on hB) hf).mono ?_
  rintro e W2 hR
  obtain ⟨AL, cL, rfl, hb, hL⟩ := hR.form
  have hk' := hk.below hb hk.lt
  replace hB := hB.trans (hb.mono hB.size)
  clear hb hR hk c0 c1 c2 c3 c4 c5
  have hk := hk'
  clear hk'
  obtain ⟨W, rfl⟩ : ∃ W : World, W = W2 := ⟨_, rfl⟩
  have c0 := hk.cell_ 0 rfl
  have c1 := hk.cell_ 1 rfl
  have c2 := hk.cell_ 2 rfl
  have c3 := hk.cell_ 3 rfl
  have c4 := hk.cell_ 4 rfl
  have c5 := hk.cell_ 5 rfl
  by_cases hz : (judgeF s.p pl).2.2 = 0
  · have hV : pullV s.p pl = pullF s.p pl := by unfold pullV; rw [if_pos hz]
    have HV := hide hV
    have HLN := hide (line_of hv (right_of hz))
    have hrl : rightL s.p pl = sortA (ats s.p pl) := by unfold rightL; rw [if_pos hz]
    have hPF : Hid (pullF s.p pl = planR s.p (pullL s.p [] (sortA (ats s.p pl)))) := rfl
    rw [hrl] at hL ⊢
    rw [hz]
    have HZ := hide hz
    have hll : (sortA (ats s.p pl)).length ≤ 96 := by
      have h1 := ats_len s.p pl
      have h2 := ents_len hv
      rw [sortA_len]; omega
    clear hV hrl hz
    generalize sortA (ats s.p pl) = L at *
    obtain ⟨base, hbase⟩ : ∃ n, n = W.heap.size := ⟨_, rfl⟩
    have hwb : w.heap.size ≤ base := by rw [hbase]; exact hB.size
    rw [← hbase] at hL
    have hz : base ≤ W.heap.size := Nat.le_of_eq hbase
    have lk0 := hk.lt
    go_wp2_with fail
    refine (newDesk_any s _ (hS.on hB) hv).mono ?_
    rintro e W ⟨g, mb, bo, bp, brs, rfl, hb, hD⟩
    clear c0 c1 c2 c3 c4 c5
    replace hk := hk.below hb hk.lt
    replace hL := hL.below (hb.mono (by omega))
    replace hz := Nat.le_trans hz hb.size
    replace hB := hB.trans (hb.mono hB.size)
    clear hb
    have c0 := hk.cell_ 0 rfl
    have c1 := hk.cell_ 1 rfl
    have c2 := hk.cell_ 2 rfl
    have c3 := hk.cell_ 3 rfl
    have c4 := hk.cell_ 4 rfl
    have c5 := hk.cell_ 5 rfl
    rw [← hbase] at hD
    clear hbase
    have HRQ := hide ((pull_alike s.p L).seq HLN.out.seq)
    have HRP := hide (pull_placed hv HLN.out)
    have HRA := hide (pull_alike s.p L)
    have HRG := hide (fun (i : Nat) (a : At) (h : L[i]? = some a) => pullL_get (p := s.p) L [] i a h)
    obtain ⟨R, hR⟩ : ∃ R, pullL s.p [] L = R := ⟨_, rfl⟩
    rw [hR] at HRQ HRP HRA HRG hPF
    clear hR
    have hRl : R.length = L.length := HRA.out.1
    clear c0 c1 c2 c3 c4 c5
    clear hk lk0
    go_wp2_with fail
    go_loopw [24] (fun y W => ∃ (i : Nat) (D : Desk), y = .int .i64 i ∧ i ≤ L.length ∧ DR s.p (R.take i) D ∧ Slc At.enc 7 W base AL L ∧ DeskAt base W g mb bo bp brs s D ∧ base ≤ W.heap.size ∧ Below w.heap.size w W) (fun y _ => L.length - (intOf y).toNat)
    case atStart => exact ⟨0, desk0 s.p, rfl, Nat.zero_le _, DR.start s.p, hL, hD, hz, hB⟩
    case round =>
      clear hL hD hz hB
      obtain ⟨W, rfl⟩ : ∃ W : World, W = wr := ⟨_, rfl⟩
      obtain ⟨i, D, rfl, hi, hDR, hL, hD, hz, hB⟩ := hrel
      by_cases hlt : i < L.length
      · obtain ⟨a, ha⟩ : ∃ a, L[i]? = some a := ⟨_, List.getElem?_eq_getElem hlt⟩
        obtain ⟨b, off, hA, hb0, d0, d1, d2, d3, d4, d5, d6⟩ := at7 hL ha
        have HG : Hid (R[i]? = some ⟨a.j, a.k, startF s.p (R.take i) a, a.x⟩) := HRG.out i a ha
        have hj := HLN.out.seq.ok a (List.mem_of_getElem? ha)
        obtain ⟨st, hj1, hj2⟩ := hj
        have HJ := hide (And.intro hj1 hj2)
        have hjl := (List.getElem?_eq_some_iff.1 hj1).1
        have hkl := (List.getElem?_eq_some_iff.1 hj2).1
        have hbn := (HRP.out i _ HG.out).2
        dsimp only at hbn
        obtain ⟨t0, ht0⟩ : ∃ t, startF s.p (R.take i) a = t := ⟨_, rfl⟩
        rw [ht0] at HG hbn
        have HEF := hide (show earlF s.p D a.j a.x = t0 by rw [hDR.earl hjl]; exact ht0)
        have HON := hide (hDR.on a.j hjl)
        have r1 := rdyR_ge hv HRQ.out HRP.out i a.j
        have r2 := rdyR_le hv HRQ.out HRP.out i a.j
        have HLF := hide (fun c (hc : look D.last a.x.m = some c) => show AtFit s.p c by
          rw [hDR.last] at hc
          obtain ⟨i', h1, _, _⟩ := lastP_some hc
          exact Placed.fit hv HRQ.out HRP.out (List.mem_of_getElem? (take_get h1).2))
        have hfit := Placed.fit hv HRQ.out HRP.out (List.mem_of_getElem? HG.out)
        obtain ⟨m0, m1, x1, x2, _, _, _, _⟩ := HLN.out.seq.step hv (List.mem_of_getElem? ha)
        have hpl : D.plan[a.j]? = some ((List.range st.length).map fun k => tOf (R.take i) a.j k) := by rw [hDR.plan]; exact planR_row hj1
        have HPL := hide hpl
        have hDR2 := hDR.put_ (a := ⟨a.j, a.k, t0, a.x⟩) (s := st) hj1 hkl (fun c hc hcj => by
          obtain ⟨i', h1⟩ := List.getElem?_of_mem hc
          obtain ⟨h2, h3⟩ := take_get h1
          have := pair_get HRQ.out.asc h2 h3 HG.out hcj
          have h4 : c.k < a.k := this
          exact Nat.ne_of_lt h4)
        rw [show R.take i ++ [(⟨a.j, a.k, t0, a.x⟩ : At)] = R.take (i + 1) by rw [List.take_add_one, HG.out]; rfl] at hDR2
        have honl : a.j < D.on.length := by rw [hDR.onl]; exact hjl
        have hs8 := (hv.steps a.j st hj1).1
        clear ha hj1 hj2 ht0 hpl
        subst hA
        have hij : (i : Int) < (L.length : Int) := by omega
        go_wp2_with fail
        have hx := Blk.new W 91 #[.int .i64 a.j, .int .i64 a.k, .int .i64 a.t, .int .i64 a.x.m, .int .i64 a.x.mi, .int .i64 a.x.c, .int .i64 a.x.d]
        replace hL := hL.below (((Below.refl _ W).alloc (Nat.le_refl _) (.cells #[.int .i64 a.j, .int .i64 a.k, .int .i64 a.t, .int .i64 a.x.m, .int .i64 a.x.mi, .int .i64 a.x.c, .int .i64 a.x.d] 91)).mono (by omega))
        replace hD := hD.below ((Below.refl _ W).alloc (Nat.le_refl _) (.cells #[.int .i64 a.j, .int .i64 a.k, .int .i64 a.t, .int .i64 a.x.m, .int .i64 a.x.mi, .int .i64 a.x.c, .int .i64 a.x.d] 91))
        replace hz := Nat.le_trans hz ((Below.refl _ W).alloc (Nat.le_refl _) (.cells #[.int .i64 a.j, .int .i64 a.k, .int .i64 a.t, .int .i64 a.x.m, .int .i64 a.x.mi, .int .i64 a.x.c, .int .i64 a.x.d] 91)).size
        replace hB := hB.alloc hB.size (.cells #[.int .i64 a.j, .int .i64 a.k, .int .i64 a.t, .int .i64 a.x.m, .int .i64 a.x.mi, .int .i64 a.x.c, .int .i64 a.x.d] 91)
        generalize W.alloc (.cells #[.int .i64 a.j, .int .i64 a.k, .int .i64 a.t, .int .i64 a.x.m, .int .i64 a.x.mi, .int .i64 a.x.c, .int .i64 a.x.d] 91) = W at *
        have a0 := hx.cell_ 0 rfl
        have a1 := hx.cell_ 1 rfl
        have a2 := hx.cell_ 2 rfl
        have a3 := hx.cell_ 3 rfl
        have a4 := hx.cell_ 4 rfl
        have a5 := hx.cell_ 5 rfl
        have a6 := hx.cell_ 6 rfl
        clear d0 d1 d2 d3 d4 d5 d6
        have HSW := hS.on hB
        go_wp2_with fail
        refine wp_region_quiet_tail (C := fun w' => ∃ u : Since W, w' = u.w) 11 (by kernel_rfl) (by kernel_rfl) (Since.start W) ?_
        simp only [List.take_succ_cons, List.take_zero, List.drop_succ_cons, List.drop_zero]
        have y_a0 := Since.cell a0
        have y_a1 := Since.cell a1
        have y_a2 := Since.cell a2
        have y_a3 := Since.cell a3
        have y_a4 := Since.cell a4
        have y_a5 := Since.cell a5
        have y_a6 := Since.cell a6
        clear a0 a1 a2 a3 a4 a5 a6
        repeat (go_big_quiet_step ((go_at_call 61; exact Since.calls (earliest_is base g mb bo bp brs s D a.j a.x _ t0 _ (HSW.on (Since.h _)) hv (hD.below (Since.h _)) HON.out r1 r2 HLF.out x1 x2 HEF.out))))
        refine wpQuiet_nil ?_
        rintro W ⟨⟨_, hb⟩, rfl⟩
        try dsimp only at hb ⊢
        clear y_a0 y_a1 y_a2 y_a3 y_a4 y_a5 y_a6
        replace hL := hL.below (hb.mono (by omega))
        replace hD := hD.below hb
        replace hz := Nat.le_trans hz hb.size
        replace hx := hx.below hb hx.lt
        replace hB := hB.trans (hb.mono hB.size)
        clear hb
        have a0 := hx.cell_ 0 rfl
        have a1 := hx.cell_ 1 rfl
        have a2 := hx.cell_ 2 rfl
        have a3 := hx.cell_ 3 rfl
        have a4 := hx.cell_ 4 rfl
        have a5 := hx.cell_ 5 rfl
        have a6 := hx.cell_ 6 rfl
        go_wp2_with fail
        refine (put_any base g mb bo bp brs s D a.j a.k t0 st a.x _ _ (hS.on hB) hD HJ.out.1 HJ.out.2 HPL.out (by simp; omega) honl hbn.1 (by omega) hfit (by omega) (by omega)).mono ?_
        rintro e W2 ⟨rfl, hD2, hC⟩
        have hL2 := hL.chg_ hC hz (fun k hk' => hD.notOf (.inl hk'))
        have hz2 := Nat.le_trans hz hC.size
        have hB2 := hB.trans (hC.to_below hB.size fun q hq => hD.notOf (.inl (by omega)))
        clear hL hz hB hD hC hx a0 a1 a2 a3 a4 a5 a6
        go_wp2_with fail
        go_roundw
        case rel => exact ⟨i + 1, _, by go_num, by omega, hDR2, hL2, hD2, hz2, hB2⟩
        case measure => simp [intOf]; omega
      · obtain rfl : i = L.length := by omega
        have HFIN : Hid (pullV s.p pl = D.plan) := by
          show _ = _
          rw [HV.out, hPF.out, hDR.plan, ← hRl, List.take_length]
        have g8 := hD.blk.cell_ 8 rfl
        go_wp2_with fail
        go_ret2
        exact ⟨some ⟨bp, 0, none⟩, D.plan.length, by rw [HFIN.out, HZ.out]; rfl, hB, by rw [HFIN.out]; exact hD.plan_⟩
  · have hzb : ((judgeF s.p pl).2.2 != 0) = true := by simpa using hz
    have HV := hide (show pullV s.p pl = [] by unfold pullV; rw [if_neg hz])
    clear hz
    go_wp2_with fail
    go_ret2
    exact ⟨none, 0, by rw [HV.out]; rfl, hB, by rw [HV.out]; exact Nest.nil_⟩
end Go.Proofs.Ytcpnfcnobnjhdaa
