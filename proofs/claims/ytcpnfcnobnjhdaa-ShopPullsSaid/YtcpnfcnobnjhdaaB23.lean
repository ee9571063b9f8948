/- Parts of the proofs of this seat: Pull, RefPullP, RefPullM, RefPull, ShopPulls, DispR, ShopRight, PullQ, ShopEarlier, AloneP. Each part says what it proves; no condition beyond those stated there. -/
import Derived.Deep.DeepCutAuto
import Derived.Test.YtcpnfcnobnjhdaaB21
import Derived.Test.YtcpnfcnobnjhdaaB22
import Derived.Test.YtcpnfcnobnjhdaaB24

/- Pull of package shop: the walk. -/
namespace Go.Proofs.Ytcpnfcnobnjhdaa
open Go Go.Sort Go.RowKit StabAt
structure DR (p : Shop) (R : List At) (D : Desk) : Prop where
  last : ∀ m, look D.last m = lastP (onB m) R
  onl : D.on.length = p.jobs.length
  on : ∀ j, j < p.jobs.length → D.on[j]? = some (rdyR R j)
  plan : D.plan = planR p R
theorem rdyR_snoc (R : List At) (a : At) (j : Nat) : rdyR (R ++ [a]) j = if a.j = j then a.dry else rdyR R j := by
  unfold rdyR
  rw [lastP_snoc]
  by_cases h : a.j = j <;> simp [ofJ, h]
theorem tOf_nil (j k : Nat) : tOf [] j k = 0 := rfl
theorem tOf_snoc {R : List At} {a : At} (h : ∀ b ∈ R, b.j = a.j → b.k ≠ a.k) (j k : Nat) : tOf (R ++ [a]) j k = if j = a.j ∧ k = a.k then a.t else tOf R j k := by
  unfold tOf
  rw [List.find?_append]
  by_cases hjk : j = a.j ∧ k = a.k
  · obtain ⟨rfl, rfl⟩ := hjk
    have : R.find? (fun b => decide (b.j = a.j) && decide (b.k = a.k)) = none := by
      rw [List.find?_eq_none]
      intro b hb
      simp only [Bool.and_eq_true, decide_eq_true_eq, not_and]
      exact h b hb
    rw [this]
    simp
  · rw [if_neg hjk]
    have : ([a].find? fun b => decide (b.j = j) && decide (b.k = k)) = none := by
      rw [List.find?_eq_none]
      intro b hb
      simp at hb
      subst hb
      simp only [Bool.and_eq_true, decide_eq_true_eq]
      exact fun h => hjk ⟨h.1.symm, h.2.symm⟩
    rw [this, Option.or_none]
theorem DR.start (p : Shop) : DR p [] (desk0 p) := by
  refine ⟨fun m => rfl, by simp [desk0], fun j hj => by simp [desk0, List.getElem?_replicate, hj, rdyR, lastP_nil], ?_⟩
  unfold desk0 planR
  apply List.ext_getElem?
  intro i
  simp only [List.getElem?_map, List.getElem?_zipIdx]
  cases h : p.jobs[i]? with
  | none => rfl
  | some s =>
    simp only [Option.map_some, tOf_nil]
    congr 1
    apply List.ext_getElem?
    intro k
    simp only [List.getElem?_replicate, List.getElem?_map, List.getElem?_range']
    by_cases hk : k < s.length
    · rw [if_pos hk, List.getElem?_range hk]; rfl
    · rw [if_neg hk, List.getElem?_eq_none (by simp; omega)]; rfl
theorem DR.put_ {p : Shop} {R : List At} {D : Desk} (h : DR p R D) {a : At} {s : List Step} (hs : p.jobs[a.j]? = some s) (hk : a.k < s.length) (hn : ∀ b ∈ R, b.j = a.j → b.k ≠ a.k) : DR p (R ++ [a]) (D.put a) := by
  have hj := (List.getElem?_eq_some_iff.1 hs).1
  refine ⟨fun m => ?_, by simpa [Desk.put] using h.onl, fun j hjl => ?_, ?_⟩
  · show look (Go.Proofs.Ytcpnfcnobnjhdaa.put D.last a.x.m a) m = _
    rw [look_put, lastP_snoc, h.last]
    by_cases hm : m = a.x.m
    · subst hm; simp [onB]
    · rw [if_neg hm, if_neg (by simp only [onB, decide_eq_true_eq]; exact fun h => hm h.symm)]
  · show (D.on.set a.j a.dry)[j]? = _
    rw [rdyR_snoc, List.getElem?_set]
    by_cases hja : a.j = j
    · rw [if_pos hja, if_pos (by rw [h.onl]; exact hj), if_pos hja]
    · rw [if_neg hja, if_neg hja]; exact h.on j hjl
  · show D.plan.modify a.j (fun l => l.set a.k a.t) = _
    rw [h.plan]
    apply List.ext_getElem?
    intro i
    rw [List.getElem?_modify]
    cases hi : p.jobs[i]? with
    | none =>
      have h1 : (planR p R)[i]? = none := List.getElem?_eq_none (by rw [planR_len]; exact List.getElem?_eq_none_iff.1 hi)
      have h2 : (planR p (R ++ [a]))[i]? = none := List.getElem?_eq_none (by rw [planR_len]; exact List.getElem?_eq_none_iff.1 hi)
      rw [h1, h2]; rfl
    | some s' =>
      rw [planR_row hi, planR_row hi]
      simp only [Option.map_eq_map, Option.map_some]
      congr 1
      by_cases hai : a.j = i
      · subst hai
        rw [hs] at hi
        injection hi with hi
        subst hi
        simp only [if_true]
        apply List.ext_getElem?
        intro k
        rw [List.getElem?_set, List.getElem?_map, List.getElem?_map]
        by_cases hak : a.k = k
        · subst hak
          rw [if_pos rfl, if_pos (by simpa using hk), List.getElem?_range hk]
          simp [tOf_snoc hn]
        · rw [if_neg hak]
          by_cases hkl : k < s.length
          · rw [List.getElem?_range hkl]
            simp only [Option.map_some, tOf_snoc hn]
            rw [if_neg (fun h => hak h.2.symm)]
          · rw [List.getElem?_eq_none (by simp; omega)]; rfl
      · simp only [if_neg hai, id]
        apply List.map_congr_left
        intro k _
        rw [tOf_snoc hn, if_neg (fun h => hai h.1.symm)]
theorem DR.earl {p : Shop} {R : List At} {D : Desk} (h : DR p R D) {a : At} (hj : a.j < p.jobs.length) : earlF p D a.j a.x = startF p R a := by
  have h1 : D.on.getD a.j 0 = rdyR R a.j := by rw [List.getD_eq_getElem?_getD, h.on a.j hj]; rfl
  unfold earlF startF fromR
  rw [h.last, h1]
  cases lastP (onB a.x.m) R <;> rfl
theorem Slc.chg_ {α : Type} {enc : α → List Value} {sz : Nat} {w w' : World} {B : Nat} {A : Option Addr} {xs : List α} {S : Nat → Prop} (h : Slc enc sz w B A xs) (hc : Chg S w w') (hB : B ≤ w.heap.size) (hS : ∀ k, k < B → ¬ S k) : Slc enc sz w' B A xs :=
  h.keep fun p hp => World.cell?_of_block (hc.block _ (Nat.lt_of_lt_of_le hp hB) (hS _ hp))
theorem Placed.fit {p : Shop} (hv : VShop p) {R : List At} (hq : SeqOk p R) (h : Placed p R) {b : At} (hb : b ∈ R) : AtFit p b := by
  obtain ⟨i, hi⟩ := List.getElem?_of_mem hb
  have h1 := (h i b hi).2
  have h2 := hq.step hv hb
  have v1 := hv.op0
  have v2 := hv.cl
  exact ⟨h1.1, by omega, by omega, by omega, by omega, by omega, by omega, by omega⟩
theorem rdyR_le {p : Shop} (hv : VShop p) {R : List At} (hq : SeqOk p R) (h : Placed p R) (i j : Nat) : rdyR (R.take i) j ≤ 1000000000 := by
  unfold rdyR
  cases hl : lastP (ofJ j) (R.take i) with
  | none => show (0 : Int) ≤ _; omega
  | some b =>
    obtain ⟨i', h1, _, _⟩ := lastP_some hl
    obtain ⟨_, h1⟩ := take_get h1
    have h2 := h i' b h1
    have h3 := (Placed.fit hv hq h (List.mem_of_getElem? h1))
    have := h3.mi1
    have := h3.d1
    show b.t + b.x.mi + b.x.d ≤ _
    omega
noncomputable def pullV (p : Shop) (pl : List (List Int)) : List (List Int) := if (judgeF p pl).2.2 = 0 then pullF p pl else []
def PullPost (p : Shop) (pl : List (List Int)) (w : World) (e : Ending) (w' : World) : Prop := ∃ A c, e = .returned (.tuple #[.slice A (pullV p pl).length c, .int .i64 (judgeF p pl).2.2]) ∧ Below w.heap.size w w' ∧ Plan w' w'.heap.size A (pullV p pl)
set_option maxRecDepth 100000 in
set_option maxHeartbeats 4000000 in
theorem pull_any (s : Sh) (A : Option Addr) (c : Nat) (pl : List (List Int)) (w : World) (hS : ShAt w w.heap.size s) (hvB : validShop s.p = true) (hP : Plan w w.heap.size A pl) (hf : PFits pl) :
    Calls Try.prog 44 #[.agg #[.int .i64 s.p.op, .int .i64 s.p.cl, .slice s.aH s.p.hol.length s.cH, .int .i64 s.p.mach, .slice s.aS s.p.setup.length s.cS, .slice s.aJ s.p.jobs.length s.cJ], .slice A pl.length c] w (PullPost s.p pl w) := by
  have hv := valid_facts hvB
  have hjn := hv.jobn
  have hk := Blk.new w 25 #[.int .i64 s.p.op, .int .i64 s.p.cl, .slice s.aH s.p.hol.length s.cH, .int .i64 s.p.mach, .slice s.aS s.p.setup.length s.cS, .slice s.aJ s.p.jobs.length s.cJ]
  have hB := (Below.refl w.heap.size w).alloc (Nat.le_refl _) (.cells #[.int .i64 s.p.op, .int .i64 s.p.cl, .slice s.aH s.p.hol.length s.cH, .int .i64 s.p.mach, .slice s.aS s.p.setup.length s.cS, .slice s.aJ s.p.jobs.length s.cJ] 25)
  go_enter Try.func44, Try.ntmps44
  go_wp2_with fail
  generalize w.alloc (.cells #[.int .i64 s.p.op, .int .i64 s.p.cl, .slice s.aH s.p.hol.length s.cH, .int .i64 s.p.mach, .slice s.aS s.p.setup.length s.cS, .slice s.aJ s.p.jobs.length s.cJ] 25) = W at *
  have c0 := hk.cell_ 0 rfl
  have c1 := hk.cell_ 1 rfl
  have c2 := hk.cell_ 2 rfl
  have c3 := hk.cell_ 3 rfl
  have c4 := hk.cell_ 4 rfl
  have c5 := hk.cell_ 5 rfl
  go_wp2_with fail
  refine (right_any s A c pl _ (hS.on hB) hvB (hP.on hB) hf).mono ?_
  rintro e W2 hR
  obtain ⟨AL, cL, rfl, hb, hL⟩ := hR.form
  have hk' := hk.below hb hk.lt
  replace hB := hB.trans (hb.mono hB.size)
  clear hb hR hk c0 c1 c2 c3 c4 c5
  have hk := hk'
  clear hk'
  obtain ⟨W, rfl⟩ : ∃ W : World, W = W2 := ⟨_, rfl⟩
  have c0 := hk.cell_ 0 rfl
  have c1 := hk.cell_ 1 rfl
  have c2 := hk.cell_ 2 rfl
  have c3 := hk.cell_ 3 rfl
  have c4 := hk.cell_ 4 rfl
  have c5 := hk.cell_ 5 rfl
  by_cases hz : (judgeF s.p pl).2.2 = 0
  · have hV : pullV s.p pl = pullF s.p pl := by unfold pullV; rw [if_pos hz]
    have HV := hide hV
    have HLN := hide (line_of hv (right_of hz))
    have hrl : rightL s.p pl = sortA (ats s.p pl) := by unfold rightL; rw [if_pos hz]
    have hPF : Hid (pullF s.p pl = planR s.p (pullL s.p [] (sortA (ats s.p pl)))) := rfl
    rw [hrl] at hL ⊢
    rw [hz]
    have HZ := hide hz
    have hll : (sortA (ats s.p pl)).length ≤ 96 := by
      have h1 := ats_len s.p pl
      have h2 := ents_len hv
      rw [sortA_len]; omega
    clear hV hrl hz
    generalize sortA (ats s.p pl) = L at *
    obtain ⟨base, hbase⟩ : ∃ n, n = W.heap.size := ⟨_, rfl⟩
    have hwb : w.heap.size ≤ base := by rw [hbase]; exact hB.size
    rw [← hbase] at hL
    have hz : base ≤ W.heap.size := Nat.le_of_eq hbase
    have lk0 := hk.lt
    go_wp2_with fail
    refine (newDesk_any s _ (hS.on hB) hv).mono ?_
    rintro e W ⟨g, mb, bo, bp, brs, rfl, hb, hD⟩
    clear c0 c1 c2 c3 c4 c5
    replace hk := hk.below hb hk.lt
    replace hL := hL.below (hb.mono (by omega))
    replace hz := Nat.le_trans hz hb.size
    replace hB := hB.trans (hb.mono hB.size)
    clear hb
    have c0 := hk.cell_ 0 rfl
    have c1 := hk.cell_ 1 rfl
    have c2 := hk.cell_ 2 rfl
    have c3 := hk.cell_ 3 rfl
    have c4 := hk.cell_ 4 rfl
    have c5 := hk.cell_ 5 rfl
    rw [← hbase] at hD
    clear hbase
    have HRQ := hide ((pull_alike s.p L).seq HLN.out.seq)
    have HRP := hide (pull_placed hv HLN.out)
    have HRA := hide (pull_alike s.p L)
    have HRG := hide (fun (i : Nat) (a : At) (h : L[i]? = some a) => pullL_get (p := s.p) L [] i a h)
    obtain ⟨R, hR⟩ : ∃ R, pullL s.p [] L = R := ⟨_, rfl⟩
    rw [hR] at HRQ HRP HRA HRG hPF
    clear hR
    have hRl : R.length = L.length := HRA.out.1
    clear c0 c1 c2 c3 c4 c5
    clear hk lk0
    go_wp2_with fail
    go_loopw [24] (fun y W => ∃ (i : Nat) (D : Desk), y = .int .i64 i ∧ i ≤ L.length ∧ DR s.p (R.take i) D ∧ Slc At.enc 7 W base AL L ∧ DeskAt base W g mb bo bp brs s D ∧ base ≤ W.heap.size ∧ Below w.heap.size w W) (fun y _ => L.length - (intOf y).toNat)
    case atStart => exact ⟨0, desk0 s.p, rfl, Nat.zero_le _, DR.start s.p, hL, hD, hz, hB⟩
    case round =>
      clear hL hD hz hB
      obtain ⟨W, rfl⟩ : ∃ W : World, W = wr := ⟨_, rfl⟩
      obtain ⟨i, D, rfl, hi, hDR, hL, hD, hz, hB⟩ := hrel
      by_cases hlt : i < L.length
      · obtain ⟨a, ha⟩ : ∃ a, L[i]? = some a := ⟨_, List.getElem?_eq_getElem hlt⟩
        obtain ⟨b, off, hA, hb0, d0, d1, d2, d3, d4, d5, d6⟩ := at7 hL ha
        have HG : Hid (R[i]? = some ⟨a.j, a.k, startF s.p (R.take i) a, a.x⟩) := HRG.out i a ha
        have hj := HLN.out.seq.ok a (List.mem_of_getElem? ha)
        obtain ⟨st, hj1, hj2⟩ := hj
        have HJ := hide (And.intro hj1 hj2)
        have hjl := (List.getElem?_eq_some_iff.1 hj1).1
        have hkl := (List.getElem?_eq_some_iff.1 hj2).1
        have hbn := (HRP.out i _ HG.out).2
        dsimp only at hbn
        obtain ⟨t0, ht0⟩ : ∃ t, startF s.p (R.take i) a = t := ⟨_, rfl⟩
        rw [ht0] at HG hbn
        have HEF := hide (show earlF s.p D a.j a.x = t0 by rw [hDR.earl hjl]; exact ht0)
        have HON := hide (hDR.on a.j hjl)
        have r1 := rdyR_ge hv HRQ.out HRP.out i a.j
        have r2 := rdyR_le hv HRQ.out HRP.out i a.j
        have HLF := hide (fun c (hc : look D.last a.x.m = some c) => show AtFit s.p c by
          rw [hDR.last] at hc
          obtain ⟨i', h1, _, _⟩ := lastP_some hc
          exact Placed.fit hv HRQ.out HRP.out (List.mem_of_getElem? (take_get h1).2))
        have hfit := Placed.fit hv HRQ.out HRP.out (List.mem_of_getElem? HG.out)
        obtain ⟨m0, m1, x1, x2, _, _, _, _⟩ := HLN.out.seq.step hv (List.mem_of_getElem? ha)
        have hpl : D.plan[a.j]? = some ((List.range st.length).map fun k => tOf (R.take i) a.j k) := by rw [hDR.plan]; exact planR_row hj1
        have HPL := hide hpl
        have hDR2 := hDR.put_ (a := ⟨a.j, a.k, t0, a.x⟩) (s := st) hj1 hkl (fun c hc hcj => by
          obtain ⟨i', h1⟩ := List.getElem?_of_mem hc
          obtain ⟨h2, h3⟩ := take_get h1
          have := pair_get HRQ.out.asc h2 h3 HG.out hcj
          have h4 : c.k < a.k := this
          exact Nat.ne_of_lt h4)
        rw [show R.take i ++ [(⟨a.j, a.k, t0, a.x⟩ : At)] = R.take (i + 1) by rw [List.take_add_one, HG.out]; rfl] at hDR2
        have honl : a.j < D.on.length := by rw [hDR.onl]; exact hjl
        have hs8 := (hv.steps a.j st hj1).1
        clear ha hj1 hj2 ht0 hpl
        subst hA
        have hij : (i : Int) < (L.length : Int) := by omega
        go_wp2_with fail
        have hx := Blk.new W 91 #[.int .i64 a.j, .int .i64 a.k, .int .i64 a.t, .int .i64 a.x.m, .int .i64 a.x.mi, .int .i64 a.x.c, .int .i64 a.x.d]
        replace hL := hL.below (((Below.refl _ W).alloc (Nat.le_refl _) (.cells #[.int .i64 a.j, .int .i64 a.k, .int .i64 a.t, .int .i64 a.x.m, .int .i64 a.x.mi, .int .i64 a.x.c, .int .i64 a.x.d] 91)).mono (by omega))
        replace hD := hD.below ((Below.refl _ W).alloc (Nat.le_refl _) (.cells #[.int .i64 a.j, .int .i64 a.k, .int .i64 a.t, .int .i64 a.x.m, .int .i64 a.x.mi, .int .i64 a.x.c, .int .i64 a.x.d] 91))
        replace hz := Nat.le_trans hz ((Below.refl _ W).alloc (Nat.le_refl _) (.cells #[.int .i64 a.j, .int .i64 a.k, .int .i64 a.t, .int .i64 a.x.m, .int .i64 a.x.mi, .int .i64 a.x.c, .int .i64 a.x.d] 91)).size
        replace hB := hB.alloc hB.size (.cells #[.int .i64 a.j, .int .i64 a.k, .int .i64 a.t, .int .i64 a.x.m, .int .i64 a.x.mi, .int .i64 a.x.c, .int .i64 a.x.d] 91)
        generalize W.alloc (.cells #[.int .i64 a.j, .int .i64 a.k, .int .i64 a.t, .int .i64 a.x.m, .int .i64 a.x.mi, .int .i64 a.x.c, .int .i64 a.x.d] 91) = W at *
        have a0 := hx.cell_ 0 rfl
        have a1 := hx.cell_ 1 rfl
        have a2 := hx.cell_ 2 rfl
        have a3 := hx.cell_ 3 rfl
        have a4 := hx.cell_ 4 rfl
        have a5 := hx.cell_ 5 rfl
        have a6 := hx.cell_ 6 rfl
        clear d0 d1 d2 d3 d4 d5 d6
        have HSW := hS.on hB
        go_wp2_with fail
        refine wp_region_quiet_tail (C := fun w' => ∃ u : Since W, w' = u.w) 11 (by kernel_rfl) (by kernel_rfl) (Since.start W) ?_
        simp only [List.take_succ_cons, List.take_zero, List.drop_succ_cons, List.drop_zero]
        have y_a0 := Since.cell a0
        have y_a1 := Since.cell a1
        have y_a2 := Since.cell a2
        have y_a3 := Since.cell a3
        have y_a4 := Since.cell a4
        have y_a5 := Since.cell a5
        have y_a6 := Since.cell a6
        clear a0 a1 a2 a3 a4 a5 a6
        repeat (go_big_quiet_step ((go_at_call 61; exact Since.calls (earliest_is base g mb bo bp brs s D a.j a.x _ t0 _ (HSW.on (Since.h _)) hv (hD.below (Since.h _)) HON.out r1 r2 HLF.out x1 x2 HEF.out))))
        refine wpQuiet_nil ?_
        rintro W ⟨⟨_, hb⟩, rfl⟩
        try dsimp only at hb ⊢
        clear y_a0 y_a1 y_a2 y_a3 y_a4 y_a5 y_a6
        replace hL := hL.below (hb.mono (by omega))
        replace hD := hD.below hb
        replace hz := Nat.le_trans hz hb.size
        replace hx := hx.below hb hx.lt
        replace hB := hB.trans (hb.mono hB.size)
        clear hb
        have a0 := hx.cell_ 0 rfl
        have a1 := hx.cell_ 1 rfl
        have a2 := hx.cell_ 2 rfl
        have a3 := hx.cell_ 3 rfl
        have a4 := hx.cell_ 4 rfl
        have a5 := hx.cell_ 5 rfl
        have a6 := hx.cell_ 6 rfl
        go_wp2_with fail
        refine (put_any base g mb bo bp brs s D a.j a.k t0 st a.x _ _ (hS.on hB) hD HJ.out.1 HJ.out.2 HPL.out (by simp; omega) honl hbn.1 (by omega) hfit (by omega) (by omega)).mono ?_
        rintro e W2 ⟨rfl, hD2, hC⟩
        have hL2 := hL.chg_ hC hz (fun k hk' => hD.notOf (.inl hk'))
        have hz2 := Nat.le_trans hz hC.size
        have hB2 := hB.trans (hC.to_below hB.size fun q hq => hD.notOf (.inl (by omega)))
        clear hL hz hB hD hC hx a0 a1 a2 a3 a4 a5 a6
        go_wp2_with fail
        go_roundw
        case rel => exact ⟨i + 1, _, by go_num, by omega, hDR2, hL2, hD2, hz2, hB2⟩
        case measure => simp [intOf]; omega
      · obtain rfl : i = L.length := by omega
        have HFIN : Hid (pullV s.p pl = D.plan) := by
          show _ = _
          rw [HV.out, hPF.out, hDR.plan, ← hRl, List.take_length]
        have g8 := hD.blk.cell_ 8 rfl
        go_wp2_with fail
        go_ret2
        exact ⟨some ⟨bp, 0, none⟩, D.plan.length, by rw [HFIN.out, HZ.out]; rfl, hB, by rw [HFIN.out]; exact hD.plan_⟩
  · have hzb : ((judgeF s.p pl).2.2 != 0) = true := by simpa using hz
    have HV := hide (show pullV s.p pl = [] by unfold pullV; rw [if_neg hz])
    clear hz
    go_wp2_with fail
    go_ret2
    exact ⟨none, 0, by rw [HV.out]; rfl, hB, by rw [HV.out]; exact Nest.nil_⟩
end Go.Proofs.Ytcpnfcnobnjhdaa

/- The reference's Pull: the plain law: what its rounds do, and where they stop. -/
namespace Go.Proofs.Ytcpnfcnobnjhdaa
open Go Go.Sort Go.RowKit StabAt
def key (a : At) : Nat × Nat × Step := (a.j, a.k, a.x)
theorem key_eq {a b : At} : key a = key b ↔ a.j = b.j ∧ a.k = b.k ∧ a.x = b.x := by simp [key]
theorem Alike.keys {l R : List At} (h : Alike l R) : l.map key = R.map key := by
  apply List.ext_getElem?
  intro i
  rw [List.getElem?_map, List.getElem?_map]
  cases hl : l[i]? with
  | none =>
    have : R[i]? = none := List.getElem?_eq_none (by rw [h.1]; exact List.getElem?_eq_none_iff.1 hl)
    rw [this]
  | some a =>
    obtain ⟨b, hb, e1, e2, e3⟩ := h.got hl
    rw [hb]
    simp only [Option.map_some]
    rw [key_eq.2 ⟨e1.symm, e2.symm, e3.symm⟩]
theorem filter_keys {m : Int} : ∀ {l R : List At}, l.map key = R.map key → (l.filter (onB m)).map key = (R.filter (onB m)).map key
  | [], [], _ => rfl
  | [], _ :: _, h => by simp at h
  | _ :: _, [], h => by simp at h
  | a :: l, b :: R, h => by
    simp only [List.map_cons, List.cons.injEq] at h
    have ih := filter_keys (m := m) h.2
    have hx := (key_eq.1 h.1).2.2
    have hm : onB m a = onB m b := by unfold onB; rw [hx]
    by_cases hb : onB m b = true
    · rw [List.filter_cons_of_pos (by rw [hm]; exact hb), List.filter_cons_of_pos hb, List.map_cons, List.map_cons, ih, h.1]
    · rw [List.filter_cons_of_neg (by rw [hm]; exact hb), List.filter_cons_of_neg hb, ih]
theorem keys_get {l R : List At} (h : l.map key = R.map key) {n : Nat} {a : At} (ha : l[n]? = some a) : ∃ b, R[n]? = some b ∧ b.j = a.j ∧ b.k = a.k ∧ b.x = a.x := by
  have h1 : (R.map key)[n]? = some (key a) := by rw [← h, List.getElem?_map, ha]; rfl
  rw [List.getElem?_map] at h1
  cases hb : R[n]? with
  | none => rw [hb] at h1; cases h1
  | some b =>
    rw [hb] at h1
    simp only [Option.map_some, Option.some.injEq] at h1
    exact ⟨b, rfl, key_eq.1 h1⟩
/-- the earliest start that a plan O lets a step have -/
def rdyO (p : Shop) (O : List (List Int)) (a : At) : Int := match a.k with
  | 0 => 0
  | k + 1 => planAt O a.j k + (stepAt p a.j k).mi + (stepAt p a.j k).d
def atO (O : List (List Int)) (b : At) : At := ⟨b.j, b.k, planAt O b.j b.k, b.x⟩
noncomputable def prevO (p : Shop) (O : List (List Int)) (M : List At) (n : Nat) (a : At) : Int := match n with
  | 0 => rdyO p O a
  | k + 1 => match M[k]? with
    | some b => max (rdyO p O a) (roomF p (atO O b) a.x.c)
    | none => rdyO p O a
noncomputable def refT (p : Shop) (O : List (List Int)) (M : List At) (n : Nat) (a : At) : Int := nextF p (prevO p O M n a) a.x.mi
theorem prevO_key {p : Shop} {O : List (List Int)} {M M' : List At} (h : M.map key = M'.map key) {a b : At} (hj : b.j = a.j) (hk : b.k = a.k) (hx : b.x = a.x) (n : Nat) : prevO p O M n a = prevO p O M' n b := by
  have hr : rdyO p O a = rdyO p O b := by unfold rdyO; rw [hj, hk]
  unfold prevO
  cases n with
  | zero => exact hr
  | succ k =>
    simp only
    cases hM : M[k]? with
    | none =>
      have : M'[k]? = none := by
        have h1 := congrArg List.length h
        simp at h1
        exact List.getElem?_eq_none (by rw [← h1]; exact List.getElem?_eq_none_iff.1 hM)
      rw [this]; exact hr
    | some c =>
      obtain ⟨d, hd, e1, e2, e3⟩ := keys_get h hM
      rw [hd]
      simp only
      rw [hr, hx, show atO O d = atO O c by unfold atO; rw [e1, e2, e3]]
theorem refT_key {p : Shop} {O : List (List Int)} {M M' : List At} (h : M.map key = M'.map key) {a b : At} (hj : b.j = a.j) (hk : b.k = a.k) (hx : b.x = a.x) (n : Nat) : refT p O M n a = refT p O M' n b := by
  unfold refT
  rw [prevO_key h hj hk hx, hx]
def prevI (M : List At) : Nat → Option At
  | 0 => none
  | k + 1 => M[k]?
theorem lastP_prev {M l : List At} {f : At → Bool} {n : Nat} {b : At} (h : l.filter f = M.take n) (hn : M[n]? = some b) : lastP f l = prevI M n := by
  unfold lastP
  rw [h, getLast_take hn]
  cases n <;> rfl
/-- the reference's plan while it grows -/
structure OutOk (p : Shop) (R : List At) (O : List (List Int)) : Prop where
  len : O.length = p.jobs.length
  row : ∀ (j : Nat) s l, p.jobs[j]? = some s → O[j]? = some l → l.length = s.length
  bd : ∀ b ∈ R, 0 ≤ planAt O b.j b.k ∧ planAt O b.j b.k ≤ b.t
theorem stepAt_eq {p : Shop} {j k : Nat} {s : List Step} {x : Step} (hj : p.jobs[j]? = some s) (hk : s[k]? = some x) : stepAt p j k = x := by
  unfold stepAt
  simp [List.getD_eq_getElem?_getD, hj, hk]
section
variable {p : Shop} {R : List At} {O : List (List Int)}
theorem OutOk.rdy (hv : VShop p) (hq : SeqOk p R) (h : OutOk p R O) {i : Nat} {b : At} (hb : R[i]? = some b) : 0 ≤ rdyO p O b ∧ rdyO p O b ≤ rdyR (R.take i) b.j := by
  unfold rdyO rdyR
  rcases hq.prev hb with ⟨h1, h2⟩ | ⟨k, h1, i', c, h2, h3, h4, h5, h6⟩
  · rw [h1, h2]; exact ⟨Int.le_refl _, Int.le_refl _⟩
  · rw [h1, h6]
    simp only
    have hm := List.mem_of_getElem? h3
    obtain ⟨s, g1, g2⟩ := hq.ok c hm
    have h7 := h.bd c hm
    have h8 := hq.step hv hm
    rw [h4] at g1 h7
    rw [h5] at g2 h7
    rw [stepAt_eq g1 g2]
    unfold At.dry
    omega
theorem OutOk.prev (hv : VShop p) (hq : SeqOk p R) (h : OutOk p R O) {m : Int} {n i : Nat} {b : At} (hb : R[i]? = some b) (hm : b.x.m = m) (hn : (R.filter (onB m))[n]? = some b) (ht : (R.take i).filter (onB m) = (R.filter (onB m)).take n) :
    0 ≤ prevO p O (R.filter (onB m)) n b ∧ prevO p O (R.filter (onB m)) n b ≤ fromR p (R.take i) b := by
  have h1 := h.rdy hv hq hb
  have h2 : lastP (onB b.x.m) (R.take i) = prevI (R.filter (onB m)) n := by rw [hm]; exact lastP_prev ht hn
  unfold prevO fromR
  rw [h2]
  cases n with
  | zero => exact h1
  | succ k =>
    simp only [prevI]
    cases hc : (R.filter (onB m))[k]? with
    | none => exact h1
    | some c =>
      simp only
      have hcm := List.mem_filter.1 (List.mem_of_getElem? hc)
      have h3 := (h.bd c hcm.1).2
      have h4 := room_mono (p := p) (a := atO O c) (b := c) (c := b.x.c) h3 rfl
      omega
/-- no round goes beyond the plan that was put step by step -/
theorem refT_le (hv : VShop p) (hq : SeqOk p R) (hp : Placed p R) (h : OutOk p R O) {m : Int} {n : Nat} {b : At} (hn : (R.filter (onB m))[n]? = some b) :
    0 ≤ prevO p O (R.filter (onB m)) n b ∧ prevO p O (R.filter (onB m)) n b ≤ 100000000 ∧ 0 ≤ refT p O (R.filter (onB m)) n b ∧ refT p O (R.filter (onB m)) n b ≤ b.t ∧ b ∈ R := by
  obtain ⟨i, hi, hf, ht⟩ := filter_from hn
  have hm : b.x.m = m := by simpa [onB] using hf
  have h1 := h.prev hv hq hi hm hn ht
  have h2 := (hp i b hi)
  have h3 := start_ge hv hq hp hi
  have h4 := hq.step hv (List.mem_of_getElem? hi)
  have h5 := next_mono hv h1.1 h1.2 h4.2.2.2.1
  have h6 := next_ge hv h1.1 h4.2.2.2.1
  have h7 : b.t = nextF p (fromR p (R.take i) b) b.x.mi := h2.1
  refine ⟨h1.1, by omega, ?_, ?_, List.mem_of_getElem? hi⟩
  · unfold refT; omega
  · unfold refT; omega
/-- where nothing is raised any more the plan is the one that was put step by step -/
theorem refT_done (hv : VShop p) (hq : SeqOk p R) (hp : Placed p R) (h : OutOk p R O) (hd : ∀ m : Nat, (m : Int) < p.mach → ∀ (n : Nat) b, (R.filter (onB m))[n]? = some b → refT p O (R.filter (onB m)) n b ≤ planAt O b.j b.k) : ∀ (i : Nat) (b : At), R[i]? = some b → planAt O b.j b.k = b.t := by
  intro i
  induction i using Nat.strongRecOn with
  | _ i ih =>
    intro b hb
    have hs := hq.step hv (List.mem_of_getElem? hb)
    obtain ⟨n, hn, ht⟩ := filter_place (f := onB b.x.m) hb (by simp [onB])
    have h1 := hd b.x.m.toNat (by omega) n b (by rw [show ((b.x.m.toNat : Nat) : Int) = b.x.m by omega]; exact hn)
    rw [show ((b.x.m.toNat : Nat) : Int) = b.x.m by omega] at h1
    have h2 := (h.bd b (List.mem_of_getElem? hb)).2
    have hr : rdyO p O b = rdyR (R.take i) b.j := by
      unfold rdyO rdyR
      rcases hq.prev hb with ⟨g1, g2⟩ | ⟨k, g1, i', c, g2, g3, g4, g5, g6⟩
      · rw [g1, g2]
      · rw [g1, g6]
        simp only
        obtain ⟨s, q1, q2⟩ := hq.ok c (List.mem_of_getElem? g3)
        have g7 := ih i' g2 c g3
        rw [g4] at q1 g7
        rw [g5] at q2 g7
        rw [stepAt_eq q1 q2, g7]
        rfl
    have hl : lastP (onB b.x.m) (R.take i) = prevI (R.filter (onB b.x.m)) n := lastP_prev ht hn
    have hpf : prevO p O (R.filter (onB b.x.m)) n b = fromR p (R.take i) b := by
      unfold prevO fromR
      rw [hl]
      cases n with
      | zero => exact hr
      | succ k =>
        simp only [prevI]
        cases hc : (R.filter (onB b.x.m))[k]? with
        | none => exact hr
        | some c =>
          simp only
          have hc2 : lastP (onB b.x.m) (R.take i) = some c := by rw [hl]; exact hc
          obtain ⟨i', g1, g2, _⟩ := lastP_some hc2
          obtain ⟨g3, g4⟩ := take_get g1
          have g5 := ih i' g3 c g4
          rw [hr, show atO O c = c by unfold atO; rw [g5]]
    have h3 : refT p O (R.filter (onB b.x.m)) n b = b.t := by
      unfold refT
      rw [hpf]
      exact (hp i b hb).1.symm
    omega
theorem OutOk.eq (hv : VShop p) (hq : SeqOk p R) (h : OutOk p R O) (he : ∀ (i : Nat) (b : At), R[i]? = some b → planAt O b.j b.k = b.t) : O = planR p R := by
  apply List.ext_getElem?
  intro j
  by_cases hj : j < p.jobs.length
  · have hs : p.jobs[j]? = some p.jobs[j] := List.getElem?_eq_getElem hj
    have hO : O[j]? = some (O[j]'(by rw [h.len]; exact hj)) := List.getElem?_eq_getElem _
    rw [planR_row hs, hO]
    congr 1
    have hl := h.row j _ _ hs hO
    apply List.ext_getElem?
    intro k
    by_cases hk : k < p.jobs[j].length
    · have hx : p.jobs[j][k]? = some p.jobs[j][k] := List.getElem?_eq_getElem hk
      obtain ⟨b, hb, rfl, rfl⟩ := hq.all j k _ _ hs hx
      obtain ⟨i, hi⟩ := List.getElem?_of_mem hb
      have h1 := he i b hi
      have hok : (O[b.j]'(by rw [h.len]; exact hj))[b.k]? = some ((O[b.j]'(by rw [h.len]; exact hj))[b.k]'(by rw [hl]; exact hk)) := List.getElem?_eq_getElem _
      rw [planAt_eq hO hok] at h1
      rw [hok, h1, List.getElem?_map, List.getElem?_range hk]
      simp [tOf_eq hq hb]
    · rw [List.getElem?_eq_none (by rw [hl]; omega), List.getElem?_eq_none (by simp; omega)]
  · rw [List.getElem?_eq_none (by rw [h.len]; omega), List.getElem?_eq_none (by rw [planR_len]; omega)]
/-- how far the plan is from the one that it becomes -/
def meas (R : List At) (O : List (List Int)) : Nat := (R.map fun b => (b.t - planAt O b.j b.k).toNat).sum
theorem sum_le_ {α : Type} {f g : α → Nat} : ∀ {l : List α}, (∀ a ∈ l, f a ≤ g a) → (l.map f).sum ≤ (l.map g).sum
  | [], _ => Nat.le_refl _
  | a :: l, h => by
    have h1 := h a (by simp)
    have h2 := sum_le_ (l := l) fun a ha => h a (by simp [ha])
    simp only [List.map_cons, List.sum_cons]; omega
theorem sum_lt_ {α : Type} {f g : α → Nat} : ∀ {l : List α}, (∀ a ∈ l, f a ≤ g a) → (∃ a ∈ l, f a < g a) → (l.map f).sum < (l.map g).sum
  | [], _, ⟨a, ha, _⟩ => by cases ha
  | a :: l, h, ⟨b, hb, hlt⟩ => by
    have h1 := h a (by simp)
    have h2 := sum_le_ (l := l) fun a ha => h a (by simp [ha])
    simp only [List.map_cons, List.sum_cons]
    rcases List.mem_cons.1 hb with rfl | hb
    · omega
    · have h3 := sum_lt_ (l := l) (fun a ha => h a (by simp [ha])) ⟨b, hb, hlt⟩
      omega
theorem planAt_set {O : List (List Int)} {j k : Nat} {l : List Int} {t : Int} (hj : O[j]? = some l) (hk : k < l.length) (j' k' : Nat) : planAt (O.modify j fun l => l.set k t) j' k' = if j' = j ∧ k' = k then t else planAt O j' k' := by
  unfold planAt
  simp only [List.getD_eq_getElem?_getD, modify_get]
  by_cases hjj : j = j'
  · subst hjj
    rw [if_pos rfl, hj]
    simp only [Option.map_some, Option.getD_some, List.getElem?_set]
    by_cases hkk : k = k'
    · subst hkk; simp [hk]
    · rw [if_neg hkk, if_neg (fun h => hkk h.2.symm)]
  · rw [if_neg hjj, if_neg (fun h => hjj h.1.symm)]
theorem OutOk.raise (hq : SeqOk p R) (h : OutOk p R O) {b : At} (hb : b ∈ R) {t : Int} {l : List Int} (hl : O[b.j]? = some l) (h1 : planAt O b.j b.k < t) (h2 : t ≤ b.t) :
    OutOk p R (O.modify b.j fun l => l.set b.k t) ∧ meas R (O.modify b.j fun l => l.set b.k t) < meas R O := by
  obtain ⟨s, g1, g2⟩ := hq.ok b hb
  have hk : b.k < l.length := by rw [h.row _ s l g1 hl]; exact (List.getElem?_eq_some_iff.1 g2).1
  have hset := planAt_set (t := t) hl hk
  have h0 := h.bd b hb
  refine ⟨⟨by simpa using h.len, fun j s' l' e1 e2 => ?_, fun c hc => ?_⟩, sum_lt_ (fun c hc => ?_) ⟨b, hb, ?_⟩⟩
  · rw [modify_get] at e2
    by_cases hj : b.j = j
    · rw [if_pos hj] at e2
      cases hO : O[j]? with
      | none => rw [hO] at e2; cases e2
      | some l0 =>
        rw [hO] at e2
        simp only [Option.map_some, Option.some.injEq] at e2
        rw [← e2, List.length_set]
        exact h.row j s' l0 e1 hO
    · rw [if_neg hj] at e2
      exact h.row j s' l' e1 e2
  · rw [hset]
    split
    · rename_i he
      obtain ⟨u, hu⟩ := List.getElem?_of_mem hc
      obtain ⟨v, hv'⟩ := List.getElem?_of_mem hb
      rw [(hq.inj hu hv' he.1 he.2).2]
      omega
    · exact h.bd c hc
  · rw [hset]
    split
    · rename_i he
      obtain ⟨u, hu⟩ := List.getElem?_of_mem hc
      obtain ⟨v, hv'⟩ := List.getElem?_of_mem hb
      rw [(hq.inj hu hv' he.1 he.2).2]
      omega
    · exact Nat.le_refl _
  · rw [hset, if_pos ⟨rfl, rfl⟩]
    omega
end
/-- nothing is raised on the machines before m, and on m before its n-th step -/
def Still (p : Shop) (R : List At) (O : List (List Int)) (m n : Nat) : Prop :=
  (∀ m' : Nat, m' < m → ∀ (q : Nat) b, (R.filter (onB m'))[q]? = some b → refT p O (R.filter (onB m')) q b ≤ planAt O b.j b.k) ∧
  ∀ (q : Nat) b, q < n → (R.filter (onB m))[q]? = some b → refT p O (R.filter (onB m)) q b ≤ planAt O b.j b.k
/-- the state of a round: raised, or still -/
def Rnd (p : Shop) (R : List At) (O : List (List Int)) (gk m n : Nat) (ag : Bool) : Prop := (ag = true ∧ meas R O + 1 < gk) ∨ (ag = false ∧ meas R O + 1 ≤ gk ∧ Still p R O m n)
theorem Rnd.start {p : Shop} {R : List At} {O : List (List Int)} {gk : Nat} (h : meas R O + 1 ≤ gk) : Rnd p R O gk 0 0 false := .inr ⟨rfl, h, fun m' hm => absurd hm (Nat.not_lt_zero _), fun q b hq => absurd hq (Nat.not_lt_zero _)⟩
theorem Rnd.pass {p : Shop} {R : List At} {O : List (List Int)} {gk m n : Nat} {ag : Bool} (h : Rnd p R O gk m n ag) {b : At} (hb : (R.filter (onB m))[n]? = some b) (hle : refT p O (R.filter (onB m)) n b ≤ planAt O b.j b.k) : Rnd p R O gk m (n + 1) ag := by
  rcases h with h | ⟨h1, h2, h3, h4⟩
  · exact .inl h
  · refine .inr ⟨h1, h2, h3, fun q c hq hc => ?_⟩
    rcases Nat.lt_or_ge q n with hlt | hge
    · exact h4 q c hlt hc
    · obtain rfl : q = n := by omega
      rw [hb] at hc
      injection hc with hc
      subst hc; exact hle
theorem Rnd.next {p : Shop} {R : List At} {O : List (List Int)} {gk m : Nat} {ag : Bool} (h : Rnd p R O gk m (R.filter (onB m)).length ag) : Rnd p R O gk (m + 1) 0 ag := by
  rcases h with h | ⟨h1, h2, h3, h4⟩
  · exact .inl h
  · refine .inr ⟨h1, h2, fun m' hm q b hb => ?_, fun q b hq => absurd hq (Nat.not_lt_zero _)⟩
    rcases Nat.lt_or_ge m' m with hlt | hge
    · exact h3 m' hlt q b hb
    · obtain rfl : m' = m := by omega
      exact h4 q b (List.getElem?_eq_some_iff.1 hb).1 hb
theorem Rnd.up {p : Shop} {R : List At} {O O' : List (List Int)} {gk m n m' n' : Nat} {ag : Bool} (h : Rnd p R O gk m n ag) (hlt : meas R O' < meas R O) : Rnd p R O' gk m' n' true := by
  rcases h with ⟨_, h⟩ | ⟨_, h, _⟩ <;> exact .inl ⟨rfl, by omega⟩
end Go.Proofs.Ytcpnfcnobnjhdaa

/- The reference's Pull: its memory; when a job is ready. -/
namespace Go.Proofs.Ytcpnfcnobnjhdaa
open Go Go.RowKit
theorem et_rows : ElemT Try.prog 44 22 1 := elemT_mk Try.underlying44 (z := .slice none 0 0) (bytes := 24) (by kernel_rfl) rfl (by omega) (by omega)
def rowE (q : Nat × List Int) : List Value := [rowV q.1 q.2]
theorem rowE_len (q : Nat × List Int) : (rowE q).length = 1 := rfl
/-- rows of fixed length, each a block of its own, in a slice -/
structure OutAt (B : Nat) (w : World) (A : Option Addr) (brs : List Nat) (O : List (List Int)) : Prop where
  len : brs.length = O.length
  head : Slc rowE 1 w w.heap.size A (brs.zip O)
  rows : ∀ (i b : Nat) l, brs[i]? = some b → O[i]? = some l → Blk w b 3 (ints l)
  nd : brs.Nodup
  base : ∀ b ∈ brs, B ≤ b
section
variable {B : Nat} {w w' : World} {A : Option Addr} {brs : List Nat} {O : List (List Int)}
theorem OutAt.below (h : OutAt B w A brs O) (hb : Below w.heap.size w w') : OutAt B w' A brs O :=
  ⟨h.len, h.head.on hb, fun i b l h1 h2 => (h.rows i b l h1 h2).below hb (h.rows i b l h1 h2).lt, h.nd, h.base⟩
theorem OutAt.row (h : OutAt B w A brs O) {j : Nat} {l : List Int} (hl : O[j]? = some l) : ∃ br bo offo, brs[j]? = some br ∧ A = some ⟨bo, offo, none⟩ ∧ w.cell? ⟨bo, offo + j, none⟩ = some (.slice (some ⟨br, 0, none⟩) l.length l.length) ∧ Blk w br 3 (ints l) ∧ B ≤ br ∧ bo < w.heap.size := by
  have hj : j < brs.length := by rw [h.len]; exact (List.getElem?_eq_some_iff.1 hl).1
  have hb : brs[j]? = some brs[j] := List.getElem?_eq_getElem hj
  have hz : (brs.zip O)[j]? = some (brs[j], l) := by rw [List.getElem?_zip_eq_some]; exact ⟨hb, hl⟩
  obtain ⟨bo, offo, h1, hlt, h3⟩ := h.head.at1 hz (v := rowV brs[j] l) rfl
  exact ⟨brs[j], bo, offo, hb, h1, h3, h.rows j _ l hb hl, h.base _ (by simp), hlt⟩
theorem OutAt.plan_ (h : OutAt B w A brs O) : Plan w w.heap.size A O := fun j l hl => by
  obtain ⟨br, bo, offo, h1, rfl, h3, h4, _, hlt⟩ := h.row hl
  refine ⟨bo, offo, some ⟨br, 0, none⟩, l.length, rfl, hlt, h3, fun k x hx => ⟨br, 0, rfl, h4.lt, fun q v hv => ?_⟩⟩
  cases q with
  | zero =>
    simp [intEnc] at hv; subst hv
    simpa using h4.cell_ k (ints_get hx)
  | succ q => simp [intEnc] at hv
theorem OutAt.lt (h : OutAt B w A brs O) {b : Nat} (hb : b ∈ brs) : b < w.heap.size := by
  obtain ⟨i, hi⟩ := List.getElem?_of_mem hb
  have hil : i < O.length := by rw [← h.len]; exact (List.getElem?_eq_some_iff.1 hi).1
  exact (h.rows i b _ hi (List.getElem?_eq_getElem hil)).lt
theorem zip_modify {brs : List Nat} {O : List (List Int)} {j : Nat} {f : List Int → List Int} : brs.zip (O.modify j f) = (brs.zip O).modify j fun q => (q.1, f q.2) := by
  apply List.ext_getElem?
  intro i
  rw [modify_get]
  by_cases hij : j = i
  · subst hij
    rw [if_pos rfl]
    cases h1 : brs[j]? with
    | none =>
      have : ∀ P : List (List Int), (brs.zip P)[j]? = none := fun P => List.getElem?_eq_none (by have := List.getElem?_eq_none_iff.1 h1; rw [List.length_zip]; omega)
      rw [this, this]; rfl
    | some b =>
      cases h2 : O[j]? with
      | none =>
        have h3 : (O.modify j f)[j]? = none := by rw [modify_get, if_pos rfl, h2]; rfl
        rw [List.getElem?_eq_none (by have := List.getElem?_eq_none_iff.1 h3; rw [List.length_zip]; omega), List.getElem?_eq_none (by have := List.getElem?_eq_none_iff.1 h2; rw [List.length_zip]; omega)]; rfl
      | some l =>
        have h3 : (O.modify j f)[j]? = some (f l) := by rw [modify_get, if_pos rfl, h2]; rfl
        have z1 : (brs.zip (O.modify j f))[j]? = some (b, f l) := List.getElem?_zip_eq_some.2 ⟨h1, h3⟩
        have z2 : (brs.zip O)[j]? = some (b, l) := List.getElem?_zip_eq_some.2 ⟨h1, h2⟩
        rw [z1, z2]; rfl
  · rw [if_neg hij]
    cases h : (brs.zip O)[i]? with
    | none =>
      have h1 := List.getElem?_eq_none_iff.1 h
      rw [List.length_zip] at h1
      rw [List.getElem?_eq_none (by rw [List.length_zip, List.length_modify]; omega)]
    | some q =>
      obtain ⟨h1, h2⟩ := List.getElem?_zip_eq_some.1 h
      have h3 : (O.modify j f)[i]? = some q.2 := by rw [modify_get, if_neg hij, h2]
      exact List.getElem?_zip_eq_some.2 ⟨h1, h3⟩
/-- a start is stored -/
theorem OutAt.set_ (h : OutAt B w A brs O) {j k br : Nat} {l : List Int} {t : Int} (hbr : brs[j]? = some br) (hl : O[j]? = some l) (hR : Blk w' br 3 ((ints l).setIfInBounds k (.int .i64 t))) (hc : Chg (fun k => k = br) w w') :
    OutAt B w' A brs (O.modify j fun l => l.set k t) := by
  rw [ints_set] at hR
  refine ⟨by simpa using h.len, ?_, fun i b l' h1 h2 => ?_, h.nd, h.base⟩
  · intro i q hq
    rw [zip_modify, modify_get] at hq
    have hold : ∃ q0, (brs.zip O)[i]? = some q0 ∧ rowE q0 = rowE q := by
      split at hq
      · cases h0 : (brs.zip O)[i]? with
        | none => rw [h0] at hq; cases hq
        | some q0 =>
          rw [h0] at hq
          simp only [Option.map_some, Option.some.injEq] at hq
          refine ⟨q0, rfl, ?_⟩
          rw [← hq]
          simp [rowE, rowV]
      · exact ⟨q, hq, rfl⟩
    obtain ⟨q0, h0, he⟩ := hold
    rw [← he]
    obtain ⟨bo, offo, e1, e2, e3⟩ := h.head i q0 h0
    refine ⟨bo, offo, e1, Nat.lt_of_lt_of_le e2 hc.size, fun r v hv => ?_⟩
    have hcell := e3 r v hv
    have hne : bo ≠ br := by
      rintro rfl
      have hv0 : v = rowV q0.1 q0.2 := by
        cases r with
        | zero => simpa [rowE] using hv.symm
        | succ r => simp [rowE] at hv
      rw [(h.rows j bo l hbr hl).cell, hv0] at hcell
      simp only [ints, List.getElem?_toArray, List.getElem?_map] at hcell
      cases hx : l[offo + i * 1 + r]? with
      | none => rw [hx] at hcell; cases hcell
      | some y => rw [hx] at hcell; simp [intV, rowV] at hcell
    exact hc.cell1 hcell hne
  · rw [modify_get] at h2
    by_cases hij : j = i
    · subst hij
      rw [hbr] at h1
      injection h1 with h1
      subst h1
      rw [if_pos rfl, hl] at h2
      simp only [Option.map_some, Option.some.injEq] at h2
      subst h2
      exact hR
    · rw [if_neg hij] at h2
      refine (h.rows i b l' h1 h2).chg1 hc fun he => ?_
      subst he
      have h4 := List.getElem?_eq_some_iff.1 hbr
      exact hij ((List.getElem?_inj h4.1 h.nd).1 (hbr.trans h1.symm))
end
theorem Slc.chgA {α : Type} {enc : α → List Value} {sz : Nat} {w w' : World} {B : Nat} {A : Option Addr} {xs : List α} {g : Nat} (h : Slc enc sz w B A xs) (hc : Chg (fun k => k = g) w w') (hA : ∀ b off, A = some ⟨b, off, none⟩ → b ≠ g) : Slc enc sz w' B A xs := fun i x hx => by
  obtain ⟨b, off, h1, h2, h3⟩ := h i x hx
  exact ⟨b, off, h1, h2, fun j v hv => hc.cell1 (h3 j v hv) (hA b off h1)⟩
/-- the rows that have been made so far -/
structure OutL (B : Nat) (w : World) (v : Value) (brs : List Nat) (O : List (List Int)) : Prop where
  own : Own w B 22 1 rowE v (brs.zip O)
  rows : ∀ (i b : Nat) l, brs[i]? = some b → O[i]? = some l → Blk w b 3 (ints l)
  len : brs.length = O.length
  nd : brs.Nodup
  base : ∀ b ∈ brs, B ≤ b
  ne : ∀ b ∈ brs, v.ownBlock ≠ some b
theorem OutL.start (B : Nat) (w : World) : OutL B w (.slice none 0 0) [] [] := ⟨Own.nil_, fun i b l h => by simp at h, rfl, List.nodup_nil, fun b h => (by cases h), fun b h => (by cases h)⟩
theorem OutL.below {B : Nat} {w w' : World} {v : Value} {brs : List Nat} {O : List (List Int)} (h : OutL B w v brs O) (hb : Below w.heap.size w w') : OutL B w' v brs O :=
  ⟨h.own.below hb, fun i b l h1 h2 => (h.rows i b l h1 h2).below hb (h.rows i b l h1 h2).lt, h.len, h.nd, h.base, h.ne⟩
theorem OutL.lt {B : Nat} {w : World} {v : Value} {brs : List Nat} {O : List (List Int)} (h : OutL B w v brs O) {b : Nat} (hb : b ∈ brs) : b < w.heap.size := by
  obtain ⟨i, hi⟩ := List.getElem?_of_mem hb
  have hil : i < O.length := by rw [← h.len]; exact (List.getElem?_eq_some_iff.1 hi).1
  exact (h.rows i b _ hi (List.getElem?_eq_getElem hil)).lt
theorem OutL.app {B n : Nat} {w0 w w' : World} {v : Value} {brs : List Nat} {O : List (List Int)} (h : OutL B w0 v brs O) (hB : B ≤ w0.heap.size) (hb : Below w0.heap.size w0 w) (hrow : Blk w w0.heap.size 3 (ints (List.replicate n 0)))
    {g cap : Nat} (ho : Own w' B 22 1 rowE (.slice (some ⟨g, 0, none⟩) ((brs.zip O).length + 1) cap) (brs.zip O ++ [(w0.heap.size, List.replicate n 0)])) (hg : w.grownBy w' v.ownBlock) (hv : v.ownBlock = some g ∨ g = w.heap.size) :
    OutL B w' (.slice (some ⟨g, 0, none⟩) ((brs.zip O).length + 1) cap) (brs ++ [w0.heap.size]) (O ++ [List.replicate n 0]) := by
  have hvl : ∀ k, v.ownBlock = some k → k < w0.heap.size := fun k hk => (World.ownsRow.lt h.own k hk).2
  refine ⟨?_, fun i b l h1 h2 => ?_, by simp [h.len], ?_, fun b hb' => ?_, fun b hb' he => ?_⟩
  · rw [List.zip_append h.len]; exact ho
  · by_cases hi : i < brs.length
    · rw [List.getElem?_append_left hi] at h1
      rw [List.getElem?_append_left (by rw [← h.len]; exact hi)] at h2
      have h3 := h.rows i b l h1 h2
      exact (h3.below hb h3.lt).grownv hg fun k hk he => h.ne b (List.mem_of_getElem? h1) (by rw [hk, he])
    · have hil := (List.getElem?_eq_some_iff.1 h1).1
      simp at hil
      obtain rfl : i = brs.length := by omega
      simp at h1
      subst h1
      rw [h.len] at h2
      simp at h2
      subst h2
      exact hrow.grownv hg fun k hk he => by have := hvl k hk; omega
  · rw [List.nodup_append]
    refine ⟨h.nd, by simp, fun a ha b hb' he => ?_⟩
    simp at hb'
    have := h.lt ha
    omega
  · rcases List.mem_append.1 hb' with hb' | hb'
    · exact h.base b hb'
    · simp at hb'; omega
  · have he' : g = b := by
      simp only [Value.ownBlock] at he
      injection he
    rcases List.mem_append.1 hb' with hb' | hb'
    · rcases hv with hv | hv
      · exact h.ne b hb' (by rw [hv, he'])
      · have := h.lt hb'; have := hb.size; omega
    · simp at hb'
      rcases hv with hv | hv
      · have := hvl g hv; omega
      · have := hrow.lt; omega
theorem OutL.done {B : Nat} {w : World} {v : Value} {brs : List Nat} {O : List (List Int)} (h : OutL B w v brs O) : ∃ A c, v = .slice A O.length c ∧ OutAt B w A brs O := by
  obtain ⟨A, c, h1, h2⟩ := h.own.form rowE_len
  rw [List.length_zip, h.len, Nat.min_self] at h1
  exact ⟨A, c, h1, h.len, h2, h.rows, h.nd, h.base⟩
/-- when a job is ready, in the plan O -/
theorem readyO_is (s : Sh) (A : Option Addr) (n c : Nat) (O : List (List Int)) (a : At) (st : List Step) (l : List Int) (v : Int) (w : World) (hS : ShAt w w.heap.size s) (hv : VShop s.p) (hP : Plan w w.heap.size A O) (hn : O.length = n)
    (hj : s.p.jobs[a.j]? = some st) (hx : st[a.k]? = some a.x) (hl : O[a.j]? = some l) (hle : l.length = st.length) (hb : ∀ (i : Nat) t, l[i]? = some t → 0 ≤ t ∧ t ≤ 1000000000) (hr : rdyO s.p O a = v) :
    Calls Try.prog 63 #[.agg #[.int .i64 s.p.op, .int .i64 s.p.cl, .slice s.aH s.p.hol.length s.cH, .int .i64 s.p.mach, .slice s.aS s.p.setup.length s.cS, .slice s.aJ s.p.jobs.length s.cJ], .slice A n c, .agg #[.int .i64 a.j, .int .i64 a.k]] w fun e w' => e = .returned (.int .i64 v) ∧ Below w.heap.size w w' := by
  subst hn hr
  have hs8 := (hv.steps a.j st hj).1
  have hkl := (List.getElem?_eq_some_iff.1 hx).1
  unfold rdyO
  rcases Nat.eq_zero_or_pos a.k with h0 | h0
  · rw [h0]
    exact ready0_any s A c O.length a.j w
  · obtain ⟨k, hk⟩ : ∃ k, a.k = k + 1 := ⟨a.k - 1, by omega⟩
    rw [hk]
    obtain ⟨t, e1⟩ : ∃ t, l[k]? = some t := ⟨_, List.getElem?_eq_getElem (by omega)⟩
    obtain ⟨x, e2⟩ : ∃ x, st[k]? = some x := ⟨_, List.getElem?_eq_getElem (by omega)⟩
    obtain ⟨_, _, x1, x2, _, _, x3, x4⟩ := (hv.steps a.j st hj).2 k _ e2
    have v0 := hv.op0
    have v1 := hv.cl
    have hbt := hb k _ e1
    simp only
    rw [planAt_eq hl e1, stepAt_eq hj e2]
    exact ready1k_any s A c O a.j k st x l t ((k + 1 : Nat) : Int) (by omega) w hS hP hj e2 hl e1 (by omega) ⟨by omega, by omega⟩ ⟨by omega, by omega⟩ ⟨x3, by omega⟩
end Go.Proofs.Ytcpnfcnobnjhdaa

/- The reference's Pull: the walk. -/
namespace Go.Proofs.Ytcpnfcnobnjhdaa
open Go Go.Sort Go.RowKit StabAt
theorem OutOk.rowbd {p : Shop} {R : List At} {O : List (List Int)} (hq : SeqOk p R) (hp : Placed p R) (h : OutOk p R O) {j : Nat} {st : List Step} {l : List Int} (hj : p.jobs[j]? = some st) (hl : O[j]? = some l) (i : Nat) (t : Int) (ht : l[i]? = some t) : 0 ≤ t ∧ t ≤ 100000000 := by
  have hil : i < st.length := by rw [← h.row j st l hj hl]; exact (List.getElem?_eq_some_iff.1 ht).1
  obtain ⟨b, hb, rfl, rfl⟩ := hq.all j i st _ hj (List.getElem?_eq_getElem hil)
  have h1 := h.bd b hb
  rw [planAt_eq hl ht] at h1
  obtain ⟨q, hq'⟩ := List.getElem?_of_mem hb
  have := (hp q b hq').2
  omega
theorem prevO_room {p : Shop} {O : List (List Int)} {M : List At} {q : Nat} {a c : At} (h : M[q]? = some c) : prevO p O M (q + 1) a = max (rdyO p O a) (roomF p (atO O c) a.x.c) := by
  unfold prevO
  simp only
  rw [h]
/-- the plan of zeros -/
def zeroO (pl : List (List Int)) : List (List Int) := pl.map fun l => List.replicate l.length 0
theorem zeroO_at (pl : List (List Int)) (j k : Nat) : planAt (zeroO pl) j k = 0 := by
  unfold planAt zeroO
  simp only [List.getD_eq_getElem?_getD, List.getElem?_map]
  cases pl[j]? with
  | none => simp
  | some l =>
    simp only [Option.map_some, Option.getD_some, List.getElem?_replicate]
    split <;> rfl
theorem OutOk.start {p : Shop} {R : List At} {pl : List (List Int)} (hs : VPlan p pl) (hp : Placed p R) : OutOk p R (zeroO pl) := by
  refine ⟨by simp [zeroO, hs.len], fun j s l hj hl => ?_, fun b hb => ?_⟩
  · unfold zeroO at hl
    rw [List.getElem?_map] at hl
    cases h : pl[j]? with
    | none => rw [h] at hl; cases hl
    | some l0 =>
      rw [h] at hl
      simp only [Option.map_some, Option.some.injEq] at hl
      rw [← hl, List.length_replicate]
      exact (hs.at_ j l0 s h hj).1
  · rw [zeroO_at]
    obtain ⟨i, hi⟩ := List.getElem?_of_mem hb
    exact ⟨Int.le_refl _, (hp i b hi).2.1⟩
def RefPullPost (p : Shop) (pl : List (List Int)) (w : World) (e : Ending) (w' : World) : Prop := ∃ A c, e = .returned (.slice A (pullF p pl).length c) ∧ Below w.heap.size w w' ∧ Plan w' w'.heap.size A (pullF p pl)
/-- what is known where the step e = M[i] is looked at, and its start in O -/
structure LookAt (p : Shop) (R M : List At) (O : List (List Int)) (m i : Nat) (e b : At) (st : List Step) (l : List Int) (te : Int) : Prop where
  b_at : (R.filter (onB m))[i]? = some b
  bj : b.j = e.j
  bk : b.k = e.k
  bx : b.x = e.x
  job : p.jobs[e.j]? = some st
  step : st[e.k]? = some e.x
  row : O[e.j]? = some l
  len : l.length = st.length
  start : l[e.k]? = some te
  val : planAt O e.j e.k = te
  t0 : 0 ≤ te
  t1 : te ≤ 100000000
  mach : e.x.m = m
theorem look_at {p : Shop} (hv : VShop p) {R M : List At} {O : List (List Int)} {m i : Nat} {e : At} (hq : SeqOk p R) (hp : Placed p R) (h : OutOk p R O) (hk : M.map key = (R.filter (onB m)).map key) (he : M[i]? = some e) : ∃ b st l te, LookAt p R M O m i e b st l te := by
  obtain ⟨b, hb, e1, e2, e3⟩ := keys_get hk he
  have hbm := List.mem_filter.1 (List.mem_of_getElem? hb)
  obtain ⟨st, h1, h2⟩ := hq.ok b hbm.1
  rw [e1] at h1
  rw [e2, e3] at h2
  have hjl : e.j < O.length := by rw [h.len]; exact (List.getElem?_eq_some_iff.1 h1).1
  have hl : O[e.j]? = some O[e.j] := List.getElem?_eq_getElem hjl
  have hlen := h.row _ _ _ h1 hl
  have hkl : e.k < O[e.j].length := by rw [hlen]; exact (List.getElem?_eq_some_iff.1 h2).1
  have ht : O[e.j][e.k]? = some O[e.j][e.k] := List.getElem?_eq_getElem hkl
  have hbd := h.rowbd hq hp h1 hl _ _ ht
  refine ⟨b, st, _, _, hb, e1, e2, e3, h1, h2, hl, hlen, ht, planAt_eq hl ht, hbd.1, hbd.2, ?_⟩
  rw [← e3]; simpa [onB] using hbm.2
/- from the earliest start $1 on: $2 proves that it is prevO -/
theorem next_is_ (s : Sh) (t m v : Int) (w : World) (hS : ShAt w w.heap.size s) (hv : VShop s.p) (ht : 0 ≤ t) (ht' : t ≤ 100000000000) (hm : 1 ≤ m) (hm' : m ≤ s.p.cl - s.p.op) (h : nextF s.p t m = v) :
    Calls Try.prog 22 #[.agg #[.int .i64 s.p.op, .int .i64 s.p.cl, .slice s.aH s.p.hol.length s.cH, .int .i64 s.p.mach, .slice s.aS s.p.setup.length s.cS, .slice s.aJ s.p.jobs.length s.cJ], .int .i64 t, .int .i64 m] w fun e w' => e = .returned (.int .i64 v) ∧ Below w.heap.size w w' := by
  rw [← h]; exact refNext_any s t m w hS hv ht ht' hm hm'
set_option maxRecDepth 200000 in
set_option maxHeartbeats 8000000 in
theorem refPull_any (s : Sh) (A : Option Addr) (c : Nat) (pl : List (List Int)) (w : World) (hS : ShAt w w.heap.size s) (hv : VShop s.p) (hP : Plan w w.heap.size A pl) (hz : (judgeF s.p pl).2.2 = 0) :
    Calls Try.prog 45 #[.agg #[.int .i64 s.p.op, .int .i64 s.p.cl, .slice s.aH s.p.hol.length s.cH, .int .i64 s.p.mach, .slice s.aS s.p.setup.length s.cS, .slice s.aJ s.p.jobs.length s.cJ], .slice A pl.length c] w (RefPullPost s.p pl w) := by
  have hp := shaped_facts (judge_shaped hz)
  have hjn := hv.jobn
  have hm1 := hv.mach1
  have hm6 := hv.mach6
  have hpl := hp.len
  have HLN := hide (line_of hv (right_of hz))
  have HRQ := hide ((pull_alike s.p _).seq HLN.out.seq)
  have HRP := hide (pull_placed hv HLN.out)
  have HRK := hide ((pull_alike s.p (sortA (ats s.p pl))).keys)
  have hPF : Hid (pullF s.p pl = planR s.p (pullL s.p [] (sortA (ats s.p pl)))) := rfl
  have HPLN := hide hpl
  have hpl12 : pl.length ≤ 12 := by omega
  clear HLN hz hpl
  generalize pullL s.p [] (sortA (ats s.p pl)) = R at *
  have hok0 := OutOk.start hp HRP.out
  obtain ⟨p, aH, cH, aS, cS, aJ, cJ⟩ := s
  dsimp only at *
  obtain ⟨bs, offs, hAS⟩ : ∃ bs offs, aS = some ⟨bs, offs, none⟩ := by
    have hl := hv.setn
    have h0 : p.setup[0]? = some (p.setup[0]'(by omega)) := List.getElem?_eq_getElem _
    obtain ⟨bs, offs, hA, _⟩ := int_at hS.setup h0
    exact ⟨bs, offs, hA⟩
  subst hAS
  have HMK := hide (fun (n : Nat) (hn : n ≤ 1000000) => run_make1 (P := Try.prog) (bytes := 8) (z := .int .i64 0) Try.underlying22 (by kernel_rfl) rfl (by omega) n hn)
  have hk := Blk.new w 25 #[.int .i64 p.op, .int .i64 p.cl, .slice aH p.hol.length cH, .int .i64 p.mach, .slice (some ⟨bs, offs, none⟩) p.setup.length cS, .slice aJ p.jobs.length cJ]
  have hB := (Below.refl w.heap.size w).alloc (Nat.le_refl _) (.cells #[.int .i64 p.op, .int .i64 p.cl, .slice aH p.hol.length cH, .int .i64 p.mach, .slice (some ⟨bs, offs, none⟩) p.setup.length cS, .slice aJ p.jobs.length cJ] 25)
  go_enter Try.func45, Try.ntmps45
  go_wp2_with fail
  generalize w.alloc (.cells #[.int .i64 p.op, .int .i64 p.cl, .slice aH p.hol.length cH, .int .i64 p.mach, .slice (some ⟨bs, offs, none⟩) p.setup.length cS, .slice aJ p.jobs.length cJ] 25) = W at *
  obtain ⟨base, hbase⟩ : ∃ n, n = W.heap.size := ⟨_, rfl⟩
  have hlk := hk.lt
  have hwb : w.heap.size < base := by omega
  have hz : base ≤ W.heap.size := Nat.le_of_eq hbase
  have hO := OutL.start base W
  clear hbase hlk
  go_loopw [5, 6] (fun v x W => ∃ (j : Nat) (brs : List Nat), x = .int .i64 j ∧ j ≤ pl.length ∧ Blk W w.heap.size 25 #[.int .i64 p.op, .int .i64 p.cl, .slice aH p.hol.length cH, .int .i64 p.mach, .slice (some ⟨bs, offs, none⟩) p.setup.length cS, .slice aJ p.jobs.length cJ] ∧ OutL base W v brs (zeroO (pl.take j)) ∧ base ≤ W.heap.size ∧ Below w.heap.size w W) (fun v x _ => pl.length - (intOf x).toNat)
  case atStart => exact ⟨0, [], rfl, Nat.zero_le _, hk, hO, hz, hB⟩
  case round =>
    clear hk hB hO hz
    obtain ⟨W, rfl⟩ : ∃ W : World, W = wr := ⟨_, rfl⟩
    obtain ⟨j, brs, rfl, hj, hk, hO, hz, hB⟩ := hrel
    have c0 := hk.cell_ 0 rfl
    have c1 := hk.cell_ 1 rfl
    have c2 := hk.cell_ 2 rfl
    have c3 := hk.cell_ 3 rfl
    have c4 := hk.cell_ 4 rfl
    have c5 := hk.cell_ 5 rfl
    by_cases hlt : j < pl.length
    · obtain ⟨l, hl⟩ : ∃ l, pl[j]? = some l := ⟨_, List.getElem?_eq_getElem hlt⟩
      obtain ⟨bp, offp, Ap, cp, hAp, hbp, hcp, _⟩ := plan_at (hP.on hB) hl
      have hst : p.jobs[j]? = some (p.jobs[j]'(by have := HPLN.out; omega)) := List.getElem?_eq_getElem (by have := HPLN.out; omega)
      have hll := (hp.at_ j l _ hl hst).1
      have hl8 := (hv.steps j _ hst).1
      have hl8' : l.length ≤ 8 := by omega
      have hzj : Hid (zeroO (pl.take j) ++ [List.replicate l.length 0] = zeroO (pl.take (j + 1))) := by
        show _ = _
        rw [List.take_add_one, hl]
        simp [zeroO]
      clear hl hst hll hl8
      subst hAp
      have hmk : ∀ w, (Instr.makeSlice 22 (.int .i64 l.length) (.int .i64 l.length)).run Try.prog w = .ok (.slice (some ⟨w.heap.size, 0, none⟩) l.length l.length) (w.alloc (.cells (Array.replicate l.length (Value.int .i64 0)) 3)) := fun w => by
        have := HMK.out l.length (by omega) w
        simpa using this
      have hji : (j : Int) < (pl.length : Int) := by omega
      have HBC : Hid (Below W.heap.size W ((W.alloc (.cells (Array.replicate l.length (Value.int .i64 0)) 3)).alloc (.cells #[.slice (some ⟨W.heap.size, 0, none⟩) l.length l.length] 22))) := ((Below.refl W.heap.size W).alloc (Nat.le_refl _) _).alloc (by simp) _
      have HRW : Hid (Blk ((W.alloc (.cells (Array.replicate l.length (Value.int .i64 0)) 3)).alloc (.cells #[.slice (some ⟨W.heap.size, 0, none⟩) l.length l.length] 22)) W.heap.size 3 (ints (List.replicate l.length 0))) := by
        have h := (Blk.new W 3 (Array.replicate l.length (Value.int .i64 0))).alloc (.cells #[.slice (some ⟨W.heap.size, 0, none⟩) l.length l.length] 22)
        rw [ints_zero'] at h ⊢
        exact h
      have HBL : Hid (Blk ((W.alloc (.cells (Array.replicate l.length (Value.int .i64 0)) 3)).alloc (.cells #[.slice (some ⟨W.heap.size, 0, none⟩) l.length l.length] 22)) (W.heap.size + 1) 22 #[.slice (some ⟨W.heap.size, 0, none⟩) l.length l.length]) := by
        have h := Blk.new (W.alloc (.cells (Array.replicate l.length (Value.int .i64 0)) 3)) 22 #[.slice (some ⟨W.heap.size, 0, none⟩) l.length l.length]
        rw [show (W.alloc (.cells (Array.replicate l.length (Value.int .i64 0)) 3)).heap.size = W.heap.size + 1 by simp] at h
        exact h
      have hyE : rowE (W.heap.size, List.replicate l.length 0) = [.slice (some ⟨W.heap.size, 0, none⟩) l.length l.length] := by simp [rowE, rowV]
      have HY := hide hyE
      clear hyE
      have hol := hO.len
      have hzl : (brs.zip (zeroO (pl.take j))).length ≤ 1000000000 := by rw [List.length_zip, hol]; simp [zeroO]; have := HPLN.out; omega
      have HGE := hide (fun k (hk' : u5.ownBlock = some k) => (World.ownsRow.lt hO.own k hk').1)
      have HSL := hide (show zeroO (pl.take j) ++ [List.replicate l.length 0] = zeroO (pl.take (j + 1)) from hzj.out)
      clear hol
      go_wp2_with (at_builtin; refine wpList_app_lies _ _ rfl rfl et_rows (hO.below HBC.out).own rfl rfl (y := (W.heap.size, List.replicate l.length 0)) HBL.out HY.out.symm rfl (by rw [HY.out]; rfl) hzl (Nat.le_trans hz HBC.out.size) ?_; intro g cap W' hO' hg hvg hgl; have hO2 := hO.app hz HBC.out HRW.out hO' hg hvg; have hk2 := (hk.below HBC.out hk.lt).grownv hg (fun k hk' => by have := HGE.out k hk'; omega); have hB2 := (hB.trans (HBC.out.mono hB.size)).trans (grownv_below hg (Nat.le_trans hB.size HBC.out.size) (fun k hk' => by have := HGE.out k hk'; omega)); have hz2 := Nat.le_trans hz (Nat.le_trans HBC.out.size hg.size); clear c0 c1 c2 c3 c4 c5 hcp hO hk hB hz hO' hg hvg hgl)
      rw [HSL.out, List.length_zip] at hO2
      go_roundw
      case rel => exact ⟨j + 1, _, by go_num, by omega, hk2, hO2, hz2, hB2⟩
      case measure => simp [intOf]; omega
    · obtain rfl : j = pl.length := by omega
      rw [List.take_length] at hO
      obtain ⟨AO, cO, rfl, hOut⟩ := hO.done
      rw [show (zeroO pl).length = p.jobs.length by unfold zeroO; rw [List.length_map]; exact HPLN.out]
      clear hO
      clear hz
      go_wp2_with fail
      clear c0 c1 c2 c3 c4 c5
      go_loopg [7] (meas R (zeroO pl) + 1) (fun gk x W => ∃ (O : List (List Int)) (ag : Bool), x = .bool ag ∧ OutOk p R O ∧ Hid ((ag = true ∧ meas R O + 1 ≤ gk) ∨ (ag = false ∧ O = pullF p pl)) ∧ Blk W w.heap.size 25 #[.int .i64 p.op, .int .i64 p.cl, .slice aH p.hol.length cH, .int .i64 p.mach, .slice (some ⟨bs, offs, none⟩) p.setup.length cS, .slice aJ p.jobs.length cJ] ∧ OutAt base W AO brs O ∧ Below w.heap.size w W)
      case atStart => exact ⟨zeroO pl, true, rfl, hok0, hide (.inl ⟨rfl, Nat.le_refl _⟩), hk, hOut, hB⟩
      case round =>
        clear hk hB hOut
        obtain ⟨W, rfl⟩ : ∃ W : World, W = wr := ⟨_, rfl⟩
        obtain ⟨O, ag, rfl, hok, HAG, hk, hOut, hB⟩ := hrel
        cases ag with
        | false =>
          have HO : Hid (O = pullF p pl) := (HAG.out.resolve_left (fun h => by cases h.1)).2
          have HLE := hide hok.len
          have c0 := hk.cell_ 0 rfl
          have c1 := hk.cell_ 1 rfl
          have c2 := hk.cell_ 2 rfl
          have c3 := hk.cell_ 3 rfl
          have c4 := hk.cell_ 4 rfl
          have c5 := hk.cell_ 5 rfl
          go_wp2_with fail
          go_ret
          exact ⟨AO, cO, by rw [← HO.out, HLE.out]; rfl, hB, by rw [← HO.out]; exact hOut.plan_⟩
        | true =>
          have HMS : Hid (meas R O + 1 ≤ gk) := (HAG.out.resolve_right (fun h => by cases h.1)).2
          clear HAG
          have HR0 := hide (Rnd.start (p := p) HMS.out)
          obtain ⟨gk0, hgk0⟩ : ∃ g, g = gk := ⟨_, rfl⟩
          have HGK := hide hgk0
          rw [← hgk0] at HR0
          clear hgk0 HMS
          have c0 := hk.cell_ 0 rfl
          have c1 := hk.cell_ 1 rfl
          have c2 := hk.cell_ 2 rfl
          have c3 := hk.cell_ 3 rfl
          have c4 := hk.cell_ 4 rfl
          have c5 := hk.cell_ 5 rfl
          go_wp2_with fail
          clear c0 c1 c2 c3 c4 c5
          go_loopw [7, 8] (fun x y W => ∃ (m : Nat) (O : List (List Int)) (ag : Bool), x = .bool ag ∧ y = .int .i64 m ∧ (m : Int) ≤ p.mach ∧ OutOk p R O ∧ Hid (Rnd p R O gk0 m 0 ag) ∧ Blk W w.heap.size 25 #[.int .i64 p.op, .int .i64 p.cl, .slice aH p.hol.length cH, .int .i64 p.mach, .slice (some ⟨bs, offs, none⟩) p.setup.length cS, .slice aJ p.jobs.length cJ] ∧ OutAt base W AO brs O ∧ Below w.heap.size w W) (fun x y _ => p.mach.toNat - (intOf y).toNat)
          case atStart => exact ⟨0, O, false, rfl, rfl, (by omega), hok, HR0, hk, hOut, hB⟩
          case round =>
            clear hk hB hOut hok HR0
            obtain ⟨W, rfl⟩ : ∃ W : World, W = wr := ⟨_, rfl⟩
            obtain ⟨m, O, ag, rfl, rfl, hm, hok, hRN, hk, hOut, hB⟩ := hrel
            have c0 := hk.cell_ 0 rfl
            have c1 := hk.cell_ 1 rfl
            have c2 := hk.cell_ 2 rfl
            have c3 := hk.cell_ 3 rfl
            have c4 := hk.cell_ 4 rfl
            have c5 := hk.cell_ 5 rfl
            by_cases hlt : (m : Int) < p.mach
            · have HLT := hide (fun b (hb : b ∈ brs) => hOut.lt hb)
              have HKY : Hid ((sortA (onM (ats p pl) (m : Int))).map key = (R.filter (onB m)).map key) := by
                have h := filter_keys (m := (m : Int)) HRK.out
                rw [show (sortA (ats p pl)).filter (onB (m : Int)) = sortA (onM (ats p pl) (m : Int)) from sortA_filter _ _] at h
                exact h
              have hML : (sortA (onM (ats p pl) (m : Int))).length ≤ 96 := by
                have h1 := (sortA_perm (onM (ats p pl) (m : Int))).length_eq
                have h2 : (onM (ats p pl) (m : Int)).length ≤ (ats p pl).length := List.length_filter_le _ _
                have h3 := ats_len p pl
                have h4 := ents_len hv
                omega
              go_wp2_with fail
              refine (refOrder_new ⟨p, aH, cH, some ⟨bs, offs, none⟩, cS, aJ, cJ⟩ A c pl m _ (hS.on hB) hv (hP.on hB) hp).mono ?_
              rintro e W ⟨AL, cL, rfl, hb, hL, HGEX⟩
              clear c0 c1 c2 c3 c4 c5
              replace hk := hk.below hb hk.lt
              replace hOut := hOut.below hb
              replace hB := hB.trans (hb.mono hB.size)
              clear hb
              have c0 := hk.cell_ 0 rfl
              have c1 := hk.cell_ 1 rfl
              have c2 := hk.cell_ 2 rfl
              have c3 := hk.cell_ 3 rfl
              have c4 := hk.cell_ 4 rfl
              have c5 := hk.cell_ 5 rfl
              have HNE := hide (fun b off (h : AL = some ⟨b, off, none⟩) (hm : b ∈ brs) => show False by have h1 := HGEX b off h; have h2 := HLT.out b hm; omega)
              clear HGEX HLT
              dsimp only at hL ⊢
              generalize sortA (onM (ats p pl) (m : Int)) = M at *
              go_wp2_with fail
              clear c0 c1 c2 c3 c4 c5
              go_loopw [7, 10] (fun x y W => ∃ (i : Nat) (O : List (List Int)) (ag : Bool), x = .bool ag ∧ y = .int .i64 i ∧ i ≤ M.length ∧ OutOk p R O ∧ Hid (Rnd p R O gk0 m i ag) ∧ Blk W w.heap.size 25 #[.int .i64 p.op, .int .i64 p.cl, .slice aH p.hol.length cH, .int .i64 p.mach, .slice (some ⟨bs, offs, none⟩) p.setup.length cS, .slice aJ p.jobs.length cJ] ∧ OutAt base W AO brs O ∧ Slc AP 2 W W.heap.size AL M ∧ Below w.heap.size w W) (fun x y _ => M.length - (intOf y).toNat)
              case atStart => exact ⟨0, O, ag, rfl, rfl, Nat.zero_le _, hok, hRN, hk, hOut, hL, hB⟩
              case round =>
                clear hk hB hOut hok hRN hL
                obtain ⟨W, rfl⟩ : ∃ W : World, W = wr := ⟨_, rfl⟩
                obtain ⟨i, O, ag, rfl, rfl, hi, hok, hRN, hk, hOut, hL, hB⟩ := hrel
                have c0 := hk.cell_ 0 rfl
                have c1 := hk.cell_ 1 rfl
                have c2 := hk.cell_ 2 rfl
                have c3 := hk.cell_ 3 rfl
                have c4 := hk.cell_ 4 rfl
                have c5 := hk.cell_ 5 rfl
                by_cases hlt2 : i < M.length
                · obtain ⟨e, he⟩ : ∃ e, M[i]? = some e := ⟨_, List.getElem?_eq_getElem hlt2⟩
                  obtain ⟨b1, st, l, te, hlk⟩ := look_at hv HRQ.out HRP.out hok HKY.out he
                  have te0 := hlk.t0
                  have te1 := hlk.t1
                  obtain ⟨sm0, sm1, xm1, xm2, sc0, sc1, sd0, sd1⟩ := (hv.steps e.j st hlk.job).2 e.k e.x hlk.step
                  have i1 : (i : Int) < (M.length : Int) := by omega
                  have i2 : (e.j : Int) < (p.jobs.length : Int) := by have := (List.getElem?_eq_some_iff.1 hlk.job).1; omega
                  have i3 : (e.k : Int) < (l.length : Int) := by have := (List.getElem?_eq_some_iff.1 hlk.start).1; omega
                  have HPB : Hid (0 ≤ prevO p O M i e ∧ prevO p O M i e ≤ 100000000) := by
                    have h := refT_le hv HRQ.out HRP.out hok hlk.b_at
                    rw [← prevO_key HKY.out hlk.bj hlk.bk hlk.bx] at h
                    exact ⟨h.1, h.2.1⟩
                  obtain ⟨r, hr⟩ : ∃ r, rdyO p O e = r := ⟨_, rfl⟩
                  have HR := hide hr
                  have HE := hide he
                  have HLK := hide hlk
                  have HRB := hide (fun (i : Nat) (t : Int) (h : l[i]? = some t) => show 0 ≤ t ∧ t ≤ 1000000000 by have := hok.rowbd HRQ.out HRP.out hlk.job hlk.row i t h; omega)
                  clear he hlk hr
                  obtain ⟨b, off, hAL, hb0, d0, d1⟩ := hL.at2 HE.out (v0 := .int .i64 e.j) (v1 := .int .i64 e.k) rfl
                  obtain ⟨br, bo, offo, hbr, hAO, hcp, hrow, hbrB, hboL⟩ := hOut.row HLK.out.row
                  subst hAL hAO
                  have HBR := hide hbr
                  clear hbr
                  have HSW := hS.on hB
                  have HPO := hOut.plan_
                  have HOL := hide hok.len
                  go_wp2_with fail
                  refine wp_region_quiet (C := fun w' => ∃ u : Since W, w' = u.w) (by kernel_rfl) (by kernel_rfl) (Since.start W) ?_
                  dsimp only
                  have y_c0 := Since.cell c0
                  have y_c1 := Since.cell c1
                  have y_c2 := Since.cell c2
                  have y_c3 := Since.cell c3
                  have y_c4 := Since.cell c4
                  have y_c5 := Since.cell c5
                  have y_d0 := Since.cell d0
                  have y_d1 := Since.cell d1
                  have y_hcp := Since.cell hcp
                  clear c0 c1 c2 c3 c4 c5
                  repeat (go_big_quiet_step ((go_at_call 63; exact Since.calls (readyO_is ⟨p, aH, cH, some ⟨bs, offs, none⟩, cS, aJ, cJ⟩ (some ⟨bo, offo, none⟩) p.jobs.length cO O e st l r _ (HSW.on (Since.h _)) hv (HPO.on (Since.h _)) HOL.out HLK.out.job HLK.out.step HLK.out.row HLK.out.len HRB.out HR.out))))
                  refine wpQuiet_nil ?_
                  rintro W ⟨⟨_, hb⟩, rfl⟩
                  try dsimp only at hb ⊢
                  replace d0 : W.cell? _ = _ := y_d0 ⟨W, hb⟩
                  replace d1 : W.cell? _ = _ := y_d1 ⟨W, hb⟩
                  replace hcp : W.cell? _ = _ := y_hcp ⟨W, hb⟩
                  clear y_c0 y_c1 y_c2 y_c3 y_c4 y_c5 y_d0 y_d1 y_hcp
                  replace hk := hk.below hb hk.lt
                  replace hOut := hOut.below hb
                  replace hL := (hL.below hb).more hb.size
                  replace hrow := hrow.below hb hrow.lt
                  replace hB := hB.trans (hb.mono hB.size)
                  clear hb
                  have c0 := hk.cell_ 0 rfl
                  have c1 := hk.cell_ 1 rfl
                  have c2 := hk.cell_ 2 rfl
                  have c3 := hk.cell_ 3 rfl
                  have c4 := hk.cell_ 4 rfl
                  have c5 := hk.cell_ 5 rfl
                  rcases Nat.eq_zero_or_pos i with hi0 | hi0
                  · have hi9 : ¬ (0 : Int) < (i : Int) := by omega
                    have HI0 := hide hi0
                    clear hi0
                    have HPV : Hid (prevO p O M i e = r) := (by show _ = _; rw [HI0.out]; exact HR.out)
                    have hfr0 : 0 ≤ r := by rw [← HPV.out]; exact HPB.out.1
                    have hfr1 : r ≤ 100000000 := by rw [← HPV.out]; exact HPB.out.2
                    have HFR : Hid (refT p O M i e = nextF p (r) e.x.mi) := by show nextF p (prevO p O M i e) e.x.mi = _; rw [HPV.out]
                    obtain ⟨T, hT⟩ : ∃ T, nextF p (r) e.x.mi = T := ⟨_, rfl⟩
                    have HTT := hide hT
                    have HTB0 := hide (refT_le hv HRQ.out HRP.out hok HLK.out.b_at)
                    have hT0 : 0 ≤ T := by have h1 := HTB0.out.2.2.1; rw [← refT_key HKY.out HLK.out.bj HLK.out.bk HLK.out.bx, HFR.out, hT] at h1; exact h1
                    have HT1 : Hid (T ≤ b1.t) := by have h1 := HTB0.out.2.2.2.1; rw [← refT_key HKY.out HLK.out.bj HLK.out.bk HLK.out.bx, HFR.out, hT] at h1; exact h1
                    clear hT
                    have HSW3 := hS.on hB
                    have fs1 := fstep1
                    go_wp2_with fail
                    refine wp_region_quiet (C := fun w' => ∃ u : Since W, w' = u.w) (by kernel_rfl) (by kernel_rfl) (Since.start W) ?_
                    dsimp only
                    have y_c0 := Since.cell c0
                    have y_c1 := Since.cell c1
                    have y_c2 := Since.cell c2
                    have y_c3 := Since.cell c3
                    have y_c4 := Since.cell c4
                    have y_c5 := Since.cell c5
                    have y_d0 := Since.cell d0
                    have y_d1 := Since.cell d1
                    have y_hcp := Since.cell hcp
                    clear c0 c1 c2 c3 c4 c5
                    repeat (go_big_quiet_step ((first | (go_at_call 59; exact Since.calls (at_any ⟨p, aH, cH, some ⟨bs, offs, none⟩, cS, aJ, cJ⟩ e.j e.k st e.x _ (HSW3.on (Since.h _)) HLK.out.job HLK.out.step)) | (go_at_call 22; exact Since.calls (next_is_ ⟨p, aH, cH, some ⟨bs, offs, none⟩, cS, aJ, cJ⟩ (r) e.x.mi T _ (HSW3.on (Since.h _)) hv hfr0 (by omega) xm1 xm2 HTT.out)))))
                    refine wpQuiet_nil ?_
                    rintro W ⟨⟨_, hb⟩, rfl⟩
                    try dsimp only at hb ⊢
                    replace d0 : W.cell? _ = _ := y_d0 ⟨W, hb⟩
                    replace d1 : W.cell? _ = _ := y_d1 ⟨W, hb⟩
                    replace hcp : W.cell? _ = _ := y_hcp ⟨W, hb⟩
                    clear y_c0 y_c1 y_c2 y_c3 y_c4 y_c5 y_d0 y_d1 y_hcp
                    replace hk := hk.below hb hk.lt
                    replace hOut := hOut.below hb
                    replace hL := (hL.below hb).more hb.size
                    replace hrow := hrow.below hb hrow.lt
                    replace hB := hB.trans (hb.mono hB.size)
                    clear hb
                    have c0 := hk.cell_ 0 rfl
                    have c1 := hk.cell_ 1 rfl
                    have c2 := hk.cell_ 2 rfl
                    have c3 := hk.cell_ 3 rfl
                    have c4 := hk.cell_ 4 rfl
                    have c5 := hk.cell_ 5 rfl
                    have hct := hrow.cell_ e.k (ints_get HLK.out.start)
                    by_cases hgt : te < T
                    · go_wp2_with fail
                      refine wp_region_quiet (C := fun w' => ∃ u : Since W, w' = u.w) (by kernel_rfl) (by kernel_rfl) (Since.start W) ?_
                      dsimp only
                      have y_c0 := Since.cell c0
                      have y_c1 := Since.cell c1
                      have y_c2 := Since.cell c2
                      have y_c3 := Since.cell c3
                      have y_c4 := Since.cell c4
                      have y_c5 := Since.cell c5
                      have y_d0 := Since.cell d0
                      have y_d1 := Since.cell d1
                      have y_hcp := Since.cell hcp
                      have y_hct := Since.cell hct
                      clear c0 c1 c2 c3 c4 c5
                      repeat (go_big_quiet_step ((fail)))
                      refine wpQuiet_nil ?_
                      rintro W ⟨⟨_, hb⟩, rfl⟩
                      try dsimp only at hb ⊢
                      replace d0 : W.cell? _ = _ := y_d0 ⟨W, hb⟩
                      replace d1 : W.cell? _ = _ := y_d1 ⟨W, hb⟩
                      replace hcp : W.cell? _ = _ := y_hcp ⟨W, hb⟩
                      replace hct : W.cell? _ = _ := y_hct ⟨W, hb⟩
                      clear y_c0 y_c1 y_c2 y_c3 y_c4 y_c5 y_d0 y_d1 y_hcp y_hct
                      replace hk := hk.below hb hk.lt
                      replace hOut := hOut.below hb
                      replace hL := (hL.below hb).more hb.size
                      replace hrow := hrow.below hb hrow.lt
                      replace hB := hB.trans (hb.mono hB.size)
                      clear hb
                      have c0 := hk.cell_ 0 rfl
                      have c1 := hk.cell_ 1 rfl
                      have c2 := hk.cell_ 2 rfl
                      have c3 := hk.cell_ 3 rfl
                      have c4 := hk.cell_ 4 rfl
                      have c5 := hk.cell_ 5 rfl
                      have HSZ := hide (show e.k < (ints l).size by rw [ints_size, HLK.out.len]; exact (List.getElem?_eq_some_iff.1 HLK.out.step).1)
                      go_wp2_with fail
                      refine wp_region_quiet_tail (C := fun w' => ∃ u : Since W, w' = u.w) 15 (by kernel_rfl) (by kernel_rfl) (Since.start W) ?_
                      simp only [List.take_succ_cons, List.take_zero, List.drop_succ_cons, List.drop_zero]
                      have y_c0 := Since.cell c0
                      have y_c1 := Since.cell c1
                      have y_c2 := Since.cell c2
                      have y_c3 := Since.cell c3
                      have y_c4 := Since.cell c4
                      have y_c5 := Since.cell c5
                      have y_d0 := Since.cell d0
                      have y_d1 := Since.cell d1
                      have y_hcp := Since.cell hcp
                      clear c0 c1 c2 c3 c4 c5
                      repeat (go_big_quiet_step ((fail)))
                      refine wpQuiet_nil ?_
                      rintro W ⟨⟨_, hb⟩, rfl⟩
                      try dsimp only at hb ⊢
                      replace d0 : W.cell? _ = _ := y_d0 ⟨W, hb⟩
                      replace d1 : W.cell? _ = _ := y_d1 ⟨W, hb⟩
                      replace hcp : W.cell? _ = _ := y_hcp ⟨W, hb⟩
                      clear y_c0 y_c1 y_c2 y_c3 y_c4 y_c5 y_d0 y_d1 y_hcp
                      replace hk := hk.below hb hk.lt
                      replace hOut := hOut.below hb
                      replace hL := (hL.below hb).more hb.size
                      replace hrow := hrow.below hb hrow.lt
                      replace hB := hB.trans (hb.mono hB.size)
                      clear hb
                      have c0 := hk.cell_ 0 rfl
                      have c1 := hk.cell_ 1 rfl
                      have c2 := hk.cell_ 2 rfl
                      have c3 := hk.cell_ 3 rfl
                      have c4 := hk.cell_ 4 rfl
                      have c5 := hk.cell_ 5 rfl
                      go_wp2_with (refine wpList_store_at rfl 3 _ _ rfl (.int .i64 T) hrow rfl rfl (by kernel_rfl) rfl HSZ.out rfl ?_; intro W2 hrow2 hc2)
                      obtain ⟨hok2, hms⟩ := hok.raise (b := b1) (t := T) HRQ.out HTB0.out.2.2.2.2 (l := l) (by rw [HLK.out.bj]; exact HLK.out.row) (by rw [HLK.out.bj, HLK.out.bk, HLK.out.val]; exact hgt) HT1.out
                      rw [HLK.out.bj, HLK.out.bk] at hok2 hms
                      have hRN2 := hide (hRN.out.up (m' := m) (n' := i + 1) hms)
                      have hOut2 := hOut.set_ HBR.out HLK.out.row hrow2 hc2
                      have hL2 := hL.chgA hc2 (fun b' off' he' heq => HNE.out b' off' he' (by rw [heq]; exact List.mem_of_getElem? HBR.out))
                      have hsz2 := hc2.size
                      go_wp2_with fail
                      go_roundw
                      case rel => exact ⟨i + 1, _, true, rfl, by go_num, by omega, hok2, hRN2, hk.chg1 hc2 (by omega), hOut2, hL2.more hsz2, hB.trans (hc2.below1 hB.size (by omega))⟩
                      case measure => simp [intOf]; omega
                    · go_wp2_with fail
                      refine wp_region_quiet (C := fun w' => ∃ u : Since W, w' = u.w) (by kernel_rfl) (by kernel_rfl) (Since.start W) ?_
                      dsimp only
                      have y_c0 := Since.cell c0
                      have y_c1 := Since.cell c1
                      have y_c2 := Since.cell c2
                      have y_c3 := Since.cell c3
                      have y_c4 := Since.cell c4
                      have y_c5 := Since.cell c5
                      have y_d0 := Since.cell d0
                      have y_d1 := Since.cell d1
                      have y_hcp := Since.cell hcp
                      have y_hct := Since.cell hct
                      clear c0 c1 c2 c3 c4 c5
                      repeat (go_big_quiet_step ((fail)))
                      refine wpQuiet_nil ?_
                      rintro W ⟨⟨_, hb⟩, rfl⟩
                      try dsimp only at hb ⊢
                      replace d0 : W.cell? _ = _ := y_d0 ⟨W, hb⟩
                      replace d1 : W.cell? _ = _ := y_d1 ⟨W, hb⟩
                      replace hcp : W.cell? _ = _ := y_hcp ⟨W, hb⟩
                      replace hct : W.cell? _ = _ := y_hct ⟨W, hb⟩
                      clear y_c0 y_c1 y_c2 y_c3 y_c4 y_c5 y_d0 y_d1 y_hcp y_hct
                      replace hk := hk.below hb hk.lt
                      replace hOut := hOut.below hb
                      replace hL := (hL.below hb).more hb.size
                      replace hrow := hrow.below hb hrow.lt
                      replace hB := hB.trans (hb.mono hB.size)
                      clear hb
                      have c0 := hk.cell_ 0 rfl
                      have c1 := hk.cell_ 1 rfl
                      have c2 := hk.cell_ 2 rfl
                      have c3 := hk.cell_ 3 rfl
                      have c4 := hk.cell_ 4 rfl
                      have c5 := hk.cell_ 5 rfl
                      have hRN2 := hide (hRN.out.pass HLK.out.b_at (by rw [← refT_key HKY.out HLK.out.bj HLK.out.bk HLK.out.bx, HFR.out, HTT.out, HLK.out.bj, HLK.out.bk, HLK.out.val]; omega))
                      go_wp2_with fail
                      go_roundw
                      case rel => exact ⟨i + 1, O, ag, rfl, by go_num, by omega, hok, hRN2, hk, hOut, hL, hB⟩
                      case measure => simp [intOf]; omega
                  · have hi9 : (0 : Int) < (i : Int) := by omega
                    obtain ⟨q, hq⟩ : ∃ q, i = q + 1 := ⟨i - 1, by omega⟩
                    obtain ⟨f, hf⟩ : ∃ f, M[q]? = some f := ⟨_, List.getElem?_eq_getElem (by omega)⟩
                    obtain ⟨b2, st2, l2, tf, hlk2⟩ := look_at hv HRQ.out HRP.out hok HKY.out hf
                    have tf0 := hlk2.t0
                    have tf1 := hlk2.t1
                    obtain ⟨fm0, fm1, fi1, fi2, fc0, fc1, fd0, fd1⟩ := (hv.steps f.j st2 hlk2.job).2 f.k f.x hlk2.step
                    have j1 : (q : Int) < (M.length : Int) := by omega
                    have j2 : (f.j : Int) < (p.jobs.length : Int) := by have := (List.getElem?_eq_some_iff.1 hlk2.job).1; omega
                    have j3 : (f.k : Int) < (l2.length : Int) := by have := (List.getElem?_eq_some_iff.1 hlk2.start).1; omega
                    have HPQ : Hid (prevO p O M i e = max (rdyO p O e) (roomF p (atO O f) e.x.c)) := by show _ = _; rw [hq]; exact prevO_room hf
                    have hrf : roomF p (atO O f) e.x.c = if f.x.c = e.x.c then tf + f.x.mi else tf + f.x.mi + setupOf p m := by
                      unfold roomF atO At.end_
                      rw [hlk2.val, hlk2.mach]
                    have e1 : IntKind.i64.wrap ((i : Int) - 1) = (q : Int) := by rw [IntWalk.i64_in _ (by omega)]; omega
                    have v0 := hv.op0
                    have v1 := hv.cl
                    have e2 : IntKind.i64.wrap (tf + f.x.mi) = tf + f.x.mi := IntWalk.i64_in _ (by omega)
                    obtain ⟨bx, offx, hALx, hbx, d2, d3⟩ := hL.at2 hf (v0 := .int .i64 f.j) (v1 := .int .i64 f.k) rfl
                    obtain ⟨br2, bo2, offo2, hbr2, hAO2, hcp2, hrow2, hbrB2, hboL2⟩ := hOut.row hlk2.row
                    obtain ⟨rfl, rfl⟩ : b = bx ∧ off = offx := by simpa using hALx
                    obtain ⟨rfl, rfl⟩ : bo = bo2 ∧ offo = offo2 := by simpa using hAO2
                    obtain ⟨hsu, hs0, hs1⟩ := setup_get hv (m := (m : Int)) (by omega) hlt
                    rw [Int.toNat_natCast] at hsu
                    obtain ⟨bsx, offsx, hASx, hbsx, hcs⟩ := int_at (hS.on hB).setup hsu
                    obtain ⟨rfl, rfl⟩ : bs = bsx ∧ offs = offsx := by simpa using hASx
                    have hsl : (m : Int) < (p.setup.length : Int) := by have := hv.setn; omega
                    generalize setupOf p m = S at *
                    have HLK2 := hide hlk2
                    have HRF := hide hrf
                    clear hALx hAO2 hASx hbr2 hq hf hlk2 hrf hsu
                    have HSW4 := hS.on hB
                    go_wp2_with fail
                    have z_c0 := hide (fun w' (hb : Below W.heap.size W w') => Since.later hb c0)
                    have z_c1 := hide (fun w' (hb : Below W.heap.size W w') => Since.later hb c1)
                    have z_c2 := hide (fun w' (hb : Below W.heap.size W w') => Since.later hb c2)
                    have z_c3 := hide (fun w' (hb : Below W.heap.size W w') => Since.later hb c3)
                    have z_c4 := hide (fun w' (hb : Below W.heap.size W w') => Since.later hb c4)
                    have z_c5 := hide (fun w' (hb : Below W.heap.size W w') => Since.later hb c5)
                    have z_d0 := hide (fun w' (hb : Below W.heap.size W w') => Since.later hb d0)
                    have z_d1 := hide (fun w' (hb : Below W.heap.size W w') => Since.later hb d1)
                    have z_d2 := hide (fun w' (hb : Below W.heap.size W w') => Since.later hb d2)
                    have z_d3 := hide (fun w' (hb : Below W.heap.size W w') => Since.later hb d3)
                    have z_hcp := hide (fun w' (hb : Below W.heap.size W w') => Since.later hb hcp)
                    have z_hcp2 := hide (fun w' (hb : Below W.heap.size W w') => Since.later hb hcp2)
                    have z_hcs := hide (fun w' (hb : Below W.heap.size W w') => Since.later hb hcs)
                    have hok : FldOk W ([⟨7, .ptr, (.cells #[.int .i64 0, .int .i64 0, .int .i64 0, .int .i64 0] 69), 7, (.cells #[.int .i64 0, .int .i64 0, .int .i64 0, .int .i64 0] 69)⟩]) [] := FldOk.nil_
                    refine wp_region_both 8 [0, 1, 2, 3, 4, 5, 6] [7] [⟨7, .ptr, (.cells #[.int .i64 0, .int .i64 0, .int .i64 0, .int .i64 0] 69), 7, (.cells #[.int .i64 0, .int .i64 0, .int .i64 0, .int .i64 0] 69)⟩] [] (fun f hf => by cases hf) (by kernel_rfl) (by kernel_rfl) (by kernel_rfl) (by kernel_rfl) (by kernel_rfl) (by simp) ?_
                    apply Exists.intro
                    refine ⟨fun W1 hc0 => ?_, ?_⟩
                    · have hb := hc0.nil_
                      have y_c0 := Since.cell (z_c0.out W1 hb)
                      have y_c1 := Since.cell (z_c1.out W1 hb)
                      have y_c2 := Since.cell (z_c2.out W1 hb)
                      have y_c3 := Since.cell (z_c3.out W1 hb)
                      have y_c4 := Since.cell (z_c4.out W1 hb)
                      have y_c5 := Since.cell (z_c5.out W1 hb)
                      have y_d0 := Since.cell (z_d0.out W1 hb)
                      have y_d1 := Since.cell (z_d1.out W1 hb)
                      have y_d2 := Since.cell (z_d2.out W1 hb)
                      have y_d3 := Since.cell (z_d3.out W1 hb)
                      have y_hcp := Since.cell (z_hcp.out W1 hb)
                      have y_hcp2 := Since.cell (z_hcp2.out W1 hb)
                      have y_hcs := Since.cell (z_hcs.out W1 hb)
                      replace hk := hk.below hb hk.lt
                      replace hOut := hOut.below hb
                      replace hL := (hL.below hb).more hb.size
                      replace hrow := hrow.below hb hrow.lt
                      replace hrow2 := hrow2.below hb hrow2.lt
                      replace hB := hB.trans (hb.mono hB.size)
                      dsimp only [pick, List.filterMap, List.getElem?_cons_succ, List.getElem?_cons_zero]
                      repeat (go_big_quiet_step ((go_at_call 59; exact Since.calls (at_any ⟨p, aH, cH, some ⟨bs, offs, none⟩, cS, aJ, cJ⟩ f.j f.k st2 f.x _ ((HSW4.on hb).on (Since.h _)) HLK2.out.job HLK2.out.step))))
                      exact wpQuiet_nil rfl
                    · refine ownWalk_alloc ⟨7, .ptr, (.cells #[.int .i64 0, .int .i64 0, .int .i64 0, .int .i64 0] 69), 7, (.cells #[.int .i64 0, .int .i64 0, .int .i64 0, .int .i64 0] 69)⟩ hok (by kernel_rfl) rfl rfl rfl rfl (fun _ => rfl) (by simp) (by simp) (fun _ => rfl) ?_
                      intro gxb
                      simp only [Shape.val, List.setIfInBounds_toArray, List.set_cons_succ, List.set_cons_zero]
                      refine ownWalk_nil ?_
                      intro w' hc0 hD
                      have hb := hc0.nil_
                      obtain ⟨gxge, gx⟩ := hD.box.get (x := ⟨7, .ptr, (.cells #[.int .i64 0, .int .i64 0, .int .i64 0, .int .i64 0] 69), 7, (.cells #[.int .i64 0, .int .i64 0, .int .i64 0, .int .i64 0] 69)⟩) (o := (.cells #[.int .i64 0, .int .i64 0, .int .i64 0, .int .i64 0] 69)) (by simp) rfl rfl
                      replace gx : Blk _ _ _ _ := gx
                      clear hD
                      try simp only [List.drop_succ_cons, List.drop_zero]
                      refine wpList_store_blk rfl 69 _ _ rfl #[.int .i64 f.x.m, .int .i64 f.x.mi, .int .i64 f.x.c, .int .i64 f.x.d] gx rfl rfl (by kernel_rfl) rfl (by simp [Value.oneCell']) ?_
                      clear gx
                      intro w0_ gx hoth
                      replace hb := hb.trans (hoth.below1 hb.size gxge)
                      clear hoth
                      try dsimp only [Act.put]
                      replace d0 : w0_.cell? _ = _ := z_d0.out w0_ hb
                      replace d1 : w0_.cell? _ = _ := z_d1.out w0_ hb
                      replace d2 : w0_.cell? _ = _ := z_d2.out w0_ hb
                      replace d3 : w0_.cell? _ = _ := z_d3.out w0_ hb
                      replace hcp : w0_.cell? _ = _ := z_hcp.out w0_ hb
                      replace hcp2 : w0_.cell? _ = _ := z_hcp2.out w0_ hb
                      replace hcs : w0_.cell? _ = _ := z_hcs.out w0_ hb
                      clear z_c0 z_c1 z_c2 z_c3 z_c4 z_c5 z_d0 z_d1 z_d2 z_d3 z_hcp z_hcp2 z_hcs
                      have hWge := hB.size
                      clear c0 c1 c2 c3 c4 c5
                      replace hk := hk.below hb hk.lt
                      replace hOut := hOut.below hb
                      replace hL := (hL.below hb).more hb.size
                      replace hrow := hrow.below hb hrow.lt
                      replace hrow2 := hrow2.below hb hrow2.lt
                      replace hB := hB.trans (hb.mono hB.size)
                      clear hb hok hc0
                      obtain ⟨W, rfl⟩ : ∃ W : World, W = w0_ := ⟨_, rfl⟩
                      have c0 := hk.cell_ 0 rfl
                      have c1 := hk.cell_ 1 rfl
                      have c2 := hk.cell_ 2 rfl
                      have c3 := hk.cell_ 3 rfl
                      have c4 := hk.cell_ 4 rfl
                      have c5 := hk.cell_ 5 rfl
                      have x0 := gx.cell_ 0 rfl
                      have x1 := gx.cell_ 1 rfl
                      have x2 := gx.cell_ 2 rfl
                      have x3 := gx.cell_ 3 rfl
                      replace hrow2 := hrow2
                      have hct2 := hrow2.cell_ f.k (ints_get HLK2.out.start)
                      go_wp2_with fail
                      refine wp_region_quiet (C := fun w' => ∃ u : Since W, w' = u.w) (by kernel_rfl) (by kernel_rfl) (Since.start W) ?_
                      dsimp only
                      have y_c0 := Since.cell c0
                      have y_c1 := Since.cell c1
                      have y_c2 := Since.cell c2
                      have y_c3 := Since.cell c3
                      have y_c4 := Since.cell c4
                      have y_c5 := Since.cell c5
                      have y_x0 := Since.cell x0
                      have y_x1 := Since.cell x1
                      have y_x2 := Since.cell x2
                      have y_x3 := Since.cell x3
                      have y_d0 := Since.cell d0
                      have y_d1 := Since.cell d1
                      have y_d2 := Since.cell d2
                      have y_d3 := Since.cell d3
                      have y_hcp := Since.cell hcp
                      have y_hcp2 := Since.cell hcp2
                      have y_hct2 := Since.cell hct2
                      have y_hcs := Since.cell hcs
                      clear c0 c1 c2 c3 c4 c5 x0 x1 x2 x3
                      repeat (go_big_quiet_step ((fail)))
                      refine wpQuiet_nil ?_
                      rintro W ⟨⟨_, hb⟩, rfl⟩
                      try dsimp only at hb ⊢
                      replace d0 : W.cell? _ = _ := y_d0 ⟨W, hb⟩
                      replace d1 : W.cell? _ = _ := y_d1 ⟨W, hb⟩
                      replace d2 : W.cell? _ = _ := y_d2 ⟨W, hb⟩
                      replace d3 : W.cell? _ = _ := y_d3 ⟨W, hb⟩
                      replace hcp : W.cell? _ = _ := y_hcp ⟨W, hb⟩
                      replace hcp2 : W.cell? _ = _ := y_hcp2 ⟨W, hb⟩
                      replace hct2 : W.cell? _ = _ := y_hct2 ⟨W, hb⟩
                      replace hcs : W.cell? _ = _ := y_hcs ⟨W, hb⟩
                      clear y_c0 y_c1 y_c2 y_c3 y_c4 y_c5 y_x0 y_x1 y_x2 y_x3 y_d0 y_d1 y_d2 y_d3 y_hcp y_hcp2 y_hct2 y_hcs
                      replace hk := hk.below hb hk.lt
                      replace hOut := hOut.below hb
                      replace hL := (hL.below hb).more hb.size
                      replace hrow := hrow.below hb hrow.lt
                      replace hrow2 := hrow2.below hb hrow2.lt
                      replace gx := gx.below hb gx.lt
                      replace hB := hB.trans (hb.mono hB.size)
                      clear hb
                      have c0 := hk.cell_ 0 rfl
                      have c1 := hk.cell_ 1 rfl
                      have c2 := hk.cell_ 2 rfl
                      have c3 := hk.cell_ 3 rfl
                      have c4 := hk.cell_ 4 rfl
                      have c5 := hk.cell_ 5 rfl
                      have x0 := gx.cell_ 0 rfl
                      have x1 := gx.cell_ 1 rfl
                      have x2 := gx.cell_ 2 rfl
                      have x3 := gx.cell_ 3 rfl
                      clear d2 d3 hcp2 hct2
                      have fs2 := fstep2
                      have HSW5 := hS.on hB
                      by_cases hcol : f.x.c = e.x.c
                      · have hcb : (f.x.c != e.x.c) = false := by simpa using hcol
                        have HRM : Hid (roomF p (atO O f) e.x.c = tf + f.x.mi) := by show _ = _; rw [HRF.out, if_pos hcol]
                        clear hcol
                        go_wp2_with fail
                        refine wp_region_quiet (C := fun w' => ∃ u : Since W, w' = u.w) (by kernel_rfl) (by kernel_rfl) (Since.start W) ?_
                        dsimp only
                        have y_c0 := Since.cell c0
                        have y_c1 := Since.cell c1
                        have y_c2 := Since.cell c2
                        have y_c3 := Since.cell c3
                        have y_c4 := Since.cell c4
                        have y_c5 := Since.cell c5
                        have y_x0 := Since.cell x0
                        have y_x1 := Since.cell x1
                        have y_x2 := Since.cell x2
                        have y_x3 := Since.cell x3
                        have y_d0 := Since.cell d0
                        have y_d1 := Since.cell d1
                        have y_hcp := Since.cell hcp
                        clear c0 c1 c2 c3 c4 c5 x0 x1 x2 x3
                        repeat (go_big_quiet_step ((go_at_call 59; exact Since.calls (at_any ⟨p, aH, cH, some ⟨bs, offs, none⟩, cS, aJ, cJ⟩ e.j e.k st e.x _ (HSW5.on (Since.h _)) HLK.out.job HLK.out.step))))
                        refine wpQuiet_nil ?_
                        rintro W ⟨⟨_, hb⟩, rfl⟩
                        try dsimp only at hb ⊢
                        replace d0 : W.cell? _ = _ := y_d0 ⟨W, hb⟩
                        replace d1 : W.cell? _ = _ := y_d1 ⟨W, hb⟩
                        replace hcp : W.cell? _ = _ := y_hcp ⟨W, hb⟩
                        clear y_c0 y_c1 y_c2 y_c3 y_c4 y_c5 y_x0 y_x1 y_x2 y_x3 y_d0 y_d1 y_hcp
                        replace hk := hk.below hb hk.lt
                        replace hOut := hOut.below hb
                        replace hL := (hL.below hb).more hb.size
                        replace hrow := hrow.below hb hrow.lt
                        replace hrow2 := hrow2.below hb hrow2.lt
                        replace gx := gx.below hb gx.lt
                        replace hB := hB.trans (hb.mono hB.size)
                        clear hb
                        have c0 := hk.cell_ 0 rfl
                        have c1 := hk.cell_ 1 rfl
                        have c2 := hk.cell_ 2 rfl
                        have c3 := hk.cell_ 3 rfl
                        have c4 := hk.cell_ 4 rfl
                        have c5 := hk.cell_ 5 rfl
                        have x0 := gx.cell_ 0 rfl
                        have x1 := gx.cell_ 1 rfl
                        have x2 := gx.cell_ 2 rfl
                        have x3 := gx.cell_ 3 rfl
                        have HPV : Hid (prevO p O M i e = (max r (tf + f.x.mi))) := (by show _ = _; rw [HPQ.out, HRM.out, HR.out])
                        have hfr0 : 0 ≤ (max r (tf + f.x.mi)) := by rw [← HPV.out]; exact HPB.out.1
                        have hfr1 : (max r (tf + f.x.mi)) ≤ 100000000 := by rw [← HPV.out]; exact HPB.out.2
                        have HFR : Hid (refT p O M i e = nextF p ((max r (tf + f.x.mi))) e.x.mi) := by show nextF p (prevO p O M i e) e.x.mi = _; rw [HPV.out]
                        obtain ⟨T, hT⟩ : ∃ T, nextF p ((max r (tf + f.x.mi))) e.x.mi = T := ⟨_, rfl⟩
                        have HTT := hide hT
                        have HTB0 := hide (refT_le hv HRQ.out HRP.out hok HLK.out.b_at)
                        have hT0 : 0 ≤ T := by have h1 := HTB0.out.2.2.1; rw [← refT_key HKY.out HLK.out.bj HLK.out.bk HLK.out.bx, HFR.out, hT] at h1; exact h1
                        have HT1 : Hid (T ≤ b1.t) := by have h1 := HTB0.out.2.2.2.1; rw [← refT_key HKY.out HLK.out.bj HLK.out.bk HLK.out.bx, HFR.out, hT] at h1; exact h1
                        clear hT
                        have HSW3 := hS.on hB
                        have fs1 := fstep1
                        go_wp2_with fail
                        refine wp_region_quiet (C := fun w' => ∃ u : Since W, w' = u.w) (by kernel_rfl) (by kernel_rfl) (Since.start W) ?_
                        dsimp only
                        have y_c0 := Since.cell c0
                        have y_c1 := Since.cell c1
                        have y_c2 := Since.cell c2
                        have y_c3 := Since.cell c3
                        have y_c4 := Since.cell c4
                        have y_c5 := Since.cell c5
                        have y_x0 := Since.cell x0
                        have y_x1 := Since.cell x1
                        have y_x2 := Since.cell x2
                        have y_x3 := Since.cell x3
                        have y_d0 := Since.cell d0
                        have y_d1 := Since.cell d1
                        have y_hcp := Since.cell hcp
                        clear c0 c1 c2 c3 c4 c5 x0 x1 x2 x3
                        repeat (go_big_quiet_step ((first | (go_at_call 59; exact Since.calls (at_any ⟨p, aH, cH, some ⟨bs, offs, none⟩, cS, aJ, cJ⟩ e.j e.k st e.x _ (HSW3.on (Since.h _)) HLK.out.job HLK.out.step)) | (go_at_call 22; exact Since.calls (next_is_ ⟨p, aH, cH, some ⟨bs, offs, none⟩, cS, aJ, cJ⟩ ((max r (tf + f.x.mi))) e.x.mi T _ (HSW3.on (Since.h _)) hv hfr0 (by omega) xm1 xm2 HTT.out)))))
                        refine wpQuiet_nil ?_
                        rintro W ⟨⟨_, hb⟩, rfl⟩
                        try dsimp only at hb ⊢
                        replace d0 : W.cell? _ = _ := y_d0 ⟨W, hb⟩
                        replace d1 : W.cell? _ = _ := y_d1 ⟨W, hb⟩
                        replace hcp : W.cell? _ = _ := y_hcp ⟨W, hb⟩
                        clear y_c0 y_c1 y_c2 y_c3 y_c4 y_c5 y_x0 y_x1 y_x2 y_x3 y_d0 y_d1 y_hcp
                        replace hk := hk.below hb hk.lt
                        replace hOut := hOut.below hb
                        replace hL := (hL.below hb).more hb.size
                        replace hrow := hrow.below hb hrow.lt
                        replace hrow2 := hrow2.below hb hrow2.lt
                        replace gx := gx.below hb gx.lt
                        replace hB := hB.trans (hb.mono hB.size)
                        clear hb
                        have c0 := hk.cell_ 0 rfl
                        have c1 := hk.cell_ 1 rfl
                        have c2 := hk.cell_ 2 rfl
                        have c3 := hk.cell_ 3 rfl
                        have c4 := hk.cell_ 4 rfl
                        have c5 := hk.cell_ 5 rfl
                        have x0 := gx.cell_ 0 rfl
                        have x1 := gx.cell_ 1 rfl
                        have x2 := gx.cell_ 2 rfl
                        have x3 := gx.cell_ 3 rfl
                        have hct := hrow.cell_ e.k (ints_get HLK.out.start)
                        by_cases hgt : te < T
                        · go_wp2_with fail
                          refine wp_region_quiet (C := fun w' => ∃ u : Since W, w' = u.w) (by kernel_rfl) (by kernel_rfl) (Since.start W) ?_
                          dsimp only
                          have y_c0 := Since.cell c0
                          have y_c1 := Since.cell c1
                          have y_c2 := Since.cell c2
                          have y_c3 := Since.cell c3
                          have y_c4 := Since.cell c4
                          have y_c5 := Since.cell c5
                          have y_x0 := Since.cell x0
                          have y_x1 := Since.cell x1
                          have y_x2 := Since.cell x2
                          have y_x3 := Since.cell x3
                          have y_d0 := Since.cell d0
                          have y_d1 := Since.cell d1
                          have y_hcp := Since.cell hcp
                          have y_hct := Since.cell hct
                          clear c0 c1 c2 c3 c4 c5 x0 x1 x2 x3
                          repeat (go_big_quiet_step ((fail)))
                          refine wpQuiet_nil ?_
                          rintro W ⟨⟨_, hb⟩, rfl⟩
                          try dsimp only at hb ⊢
                          replace d0 : W.cell? _ = _ := y_d0 ⟨W, hb⟩
                          replace d1 : W.cell? _ = _ := y_d1 ⟨W, hb⟩
                          replace hcp : W.cell? _ = _ := y_hcp ⟨W, hb⟩
                          replace hct : W.cell? _ = _ := y_hct ⟨W, hb⟩
                          clear y_c0 y_c1 y_c2 y_c3 y_c4 y_c5 y_x0 y_x1 y_x2 y_x3 y_d0 y_d1 y_hcp y_hct
                          replace hk := hk.below hb hk.lt
                          replace hOut := hOut.below hb
                          replace hL := (hL.below hb).more hb.size
                          replace hrow := hrow.below hb hrow.lt
                          replace hrow2 := hrow2.below hb hrow2.lt
                          replace gx := gx.below hb gx.lt
                          replace hB := hB.trans (hb.mono hB.size)
                          clear hb
                          have c0 := hk.cell_ 0 rfl
                          have c1 := hk.cell_ 1 rfl
                          have c2 := hk.cell_ 2 rfl
                          have c3 := hk.cell_ 3 rfl
                          have c4 := hk.cell_ 4 rfl
                          have c5 := hk.cell_ 5 rfl
                          have x0 := gx.cell_ 0 rfl
                          have x1 := gx.cell_ 1 rfl
                          have x2 := gx.cell_ 2 rfl
                          have x3 := gx.cell_ 3 rfl
                          have HSZ := hide (show e.k < (ints l).size by rw [ints_size, HLK.out.len]; exact (List.getElem?_eq_some_iff.1 HLK.out.step).1)
                          go_wp2_with fail
                          refine wp_region_quiet_tail (C := fun w' => ∃ u : Since W, w' = u.w) 15 (by kernel_rfl) (by kernel_rfl) (Since.start W) ?_
                          simp only [List.take_succ_cons, List.take_zero, List.drop_succ_cons, List.drop_zero]
                          have y_c0 := Since.cell c0
                          have y_c1 := Since.cell c1
                          have y_c2 := Since.cell c2
                          have y_c3 := Since.cell c3
                          have y_c4 := Since.cell c4
                          have y_c5 := Since.cell c5
                          have y_x0 := Since.cell x0
                          have y_x1 := Since.cell x1
                          have y_x2 := Since.cell x2
                          have y_x3 := Since.cell x3
                          have y_d0 := Since.cell d0
                          have y_d1 := Since.cell d1
                          have y_hcp := Since.cell hcp
                          clear c0 c1 c2 c3 c4 c5 x0 x1 x2 x3
                          repeat (go_big_quiet_step ((fail)))
                          refine wpQuiet_nil ?_
                          rintro W ⟨⟨_, hb⟩, rfl⟩
                          try dsimp only at hb ⊢
                          replace d0 : W.cell? _ = _ := y_d0 ⟨W, hb⟩
                          replace d1 : W.cell? _ = _ := y_d1 ⟨W, hb⟩
                          replace hcp : W.cell? _ = _ := y_hcp ⟨W, hb⟩
                          clear y_c0 y_c1 y_c2 y_c3 y_c4 y_c5 y_x0 y_x1 y_x2 y_x3 y_d0 y_d1 y_hcp
                          replace hk := hk.below hb hk.lt
                          replace hOut := hOut.below hb
                          replace hL := (hL.below hb).more hb.size
                          replace hrow := hrow.below hb hrow.lt
                          replace hrow2 := hrow2.below hb hrow2.lt
                          replace gx := gx.below hb gx.lt
                          replace hB := hB.trans (hb.mono hB.size)
                          clear hb
                          have c0 := hk.cell_ 0 rfl
                          have c1 := hk.cell_ 1 rfl
                          have c2 := hk.cell_ 2 rfl
                          have c3 := hk.cell_ 3 rfl
                          have c4 := hk.cell_ 4 rfl
                          have c5 := hk.cell_ 5 rfl
                          have x0 := gx.cell_ 0 rfl
                          have x1 := gx.cell_ 1 rfl
                          have x2 := gx.cell_ 2 rfl
                          have x3 := gx.cell_ 3 rfl
                          go_wp2_with (refine wpList_store_at rfl 3 _ _ rfl (.int .i64 T) hrow rfl rfl (by kernel_rfl) rfl HSZ.out rfl ?_; intro W2 hrow2 hc2)
                          obtain ⟨hok2, hms⟩ := hok.raise (b := b1) (t := T) HRQ.out HTB0.out.2.2.2.2 (l := l) (by rw [HLK.out.bj]; exact HLK.out.row) (by rw [HLK.out.bj, HLK.out.bk, HLK.out.val]; exact hgt) HT1.out
                          rw [HLK.out.bj, HLK.out.bk] at hok2 hms
                          have hRN2 := hide (hRN.out.up (m' := m) (n' := i + 1) hms)
                          have hOut2 := hOut.set_ HBR.out HLK.out.row hrow2 hc2
                          have hL2 := hL.chgA hc2 (fun b' off' he' heq => HNE.out b' off' he' (by rw [heq]; exact List.mem_of_getElem? HBR.out))
                          have hsz2 := hc2.size
                          go_wp2_with fail
                          go_roundw
                          case rel => exact ⟨i + 1, _, true, rfl, by go_num, by omega, hok2, hRN2, hk.chg1 hc2 (by omega), hOut2, hL2.more hsz2, hB.trans (hc2.below1 hB.size (by omega))⟩
                          case measure => simp [intOf]; omega
                        · go_wp2_with fail
                          refine wp_region_quiet (C := fun w' => ∃ u : Since W, w' = u.w) (by kernel_rfl) (by kernel_rfl) (Since.start W) ?_
                          dsimp only
                          have y_c0 := Since.cell c0
                          have y_c1 := Since.cell c1
                          have y_c2 := Since.cell c2
                          have y_c3 := Since.cell c3
                          have y_c4 := Since.cell c4
                          have y_c5 := Since.cell c5
                          have y_x0 := Since.cell x0
                          have y_x1 := Since.cell x1
                          have y_x2 := Since.cell x2
                          have y_x3 := Since.cell x3
                          have y_d0 := Since.cell d0
                          have y_d1 := Since.cell d1
                          have y_hcp := Since.cell hcp
                          have y_hct := Since.cell hct
                          clear c0 c1 c2 c3 c4 c5 x0 x1 x2 x3
                          repeat (go_big_quiet_step ((fail)))
                          refine wpQuiet_nil ?_
                          rintro W ⟨⟨_, hb⟩, rfl⟩
                          try dsimp only at hb ⊢
                          replace d0 : W.cell? _ = _ := y_d0 ⟨W, hb⟩
                          replace d1 : W.cell? _ = _ := y_d1 ⟨W, hb⟩
                          replace hcp : W.cell? _ = _ := y_hcp ⟨W, hb⟩
                          replace hct : W.cell? _ = _ := y_hct ⟨W, hb⟩
                          clear y_c0 y_c1 y_c2 y_c3 y_c4 y_c5 y_x0 y_x1 y_x2 y_x3 y_d0 y_d1 y_hcp y_hct
                          replace hk := hk.below hb hk.lt
                          replace hOut := hOut.below hb
                          replace hL := (hL.below hb).more hb.size
                          replace hrow := hrow.below hb hrow.lt
                          replace hrow2 := hrow2.below hb hrow2.lt
                          replace gx := gx.below hb gx.lt
                          replace hB := hB.trans (hb.mono hB.size)
                          clear hb
                          have c0 := hk.cell_ 0 rfl
                          have c1 := hk.cell_ 1 rfl
                          have c2 := hk.cell_ 2 rfl
                          have c3 := hk.cell_ 3 rfl
                          have c4 := hk.cell_ 4 rfl
                          have c5 := hk.cell_ 5 rfl
                          have x0 := gx.cell_ 0 rfl
                          have x1 := gx.cell_ 1 rfl
                          have x2 := gx.cell_ 2 rfl
                          have x3 := gx.cell_ 3 rfl
                          have hRN2 := hide (hRN.out.pass HLK.out.b_at (by rw [← refT_key HKY.out HLK.out.bj HLK.out.bk HLK.out.bx, HFR.out, HTT.out, HLK.out.bj, HLK.out.bk, HLK.out.val]; omega))
                          go_wp2_with fail
                          go_roundw
                          case rel => exact ⟨i + 1, O, ag, rfl, by go_num, by omega, hok, hRN2, hk, hOut, hL, hB⟩
                          case measure => simp [intOf]; omega
                      · have hcb : (f.x.c != e.x.c) = true := by simpa using hcol
                        have HRM : Hid (roomF p (atO O f) e.x.c = tf + f.x.mi + S) := by show _ = _; rw [HRF.out, if_neg hcol]
                        clear hcol
                        go_wp2_with fail
                        refine wp_region_quiet (C := fun w' => ∃ u : Since W, w' = u.w) (by kernel_rfl) (by kernel_rfl) (Since.start W) ?_
                        dsimp only
                        have y_c0 := Since.cell c0
                        have y_c1 := Since.cell c1
                        have y_c2 := Since.cell c2
                        have y_c3 := Since.cell c3
                        have y_c4 := Since.cell c4
                        have y_c5 := Since.cell c5
                        have y_x0 := Since.cell x0
                        have y_x1 := Since.cell x1
                        have y_x2 := Since.cell x2
                        have y_x3 := Since.cell x3
                        have y_d0 := Since.cell d0
                        have y_d1 := Since.cell d1
                        have y_hcp := Since.cell hcp
                        have y_hcs := Since.cell hcs
                        clear c0 c1 c2 c3 c4 c5 x0 x1 x2 x3
                        repeat (go_big_quiet_step ((go_at_call 59; exact Since.calls (at_any ⟨p, aH, cH, some ⟨bs, offs, none⟩, cS, aJ, cJ⟩ e.j e.k st e.x _ (HSW5.on (Since.h _)) HLK.out.job HLK.out.step))))
                        refine wpQuiet_nil ?_
                        rintro W ⟨⟨_, hb⟩, rfl⟩
                        try dsimp only at hb ⊢
                        replace d0 : W.cell? _ = _ := y_d0 ⟨W, hb⟩
                        replace d1 : W.cell? _ = _ := y_d1 ⟨W, hb⟩
                        replace hcp : W.cell? _ = _ := y_hcp ⟨W, hb⟩
                        replace hcs : W.cell? _ = _ := y_hcs ⟨W, hb⟩
                        clear y_c0 y_c1 y_c2 y_c3 y_c4 y_c5 y_x0 y_x1 y_x2 y_x3 y_d0 y_d1 y_hcp y_hcs
                        replace hk := hk.below hb hk.lt
                        replace hOut := hOut.below hb
                        replace hL := (hL.below hb).more hb.size
                        replace hrow := hrow.below hb hrow.lt
                        replace hrow2 := hrow2.below hb hrow2.lt
                        replace gx := gx.below hb gx.lt
                        replace hB := hB.trans (hb.mono hB.size)
                        clear hb
                        have c0 := hk.cell_ 0 rfl
                        have c1 := hk.cell_ 1 rfl
                        have c2 := hk.cell_ 2 rfl
                        have c3 := hk.cell_ 3 rfl
                        have c4 := hk.cell_ 4 rfl
                        have c5 := hk.cell_ 5 rfl
                        have x0 := gx.cell_ 0 rfl
                        have x1 := gx.cell_ 1 rfl
                        have x2 := gx.cell_ 2 rfl
                        have x3 := gx.cell_ 3 rfl
                        have HPV : Hid (prevO p O M i e = (max r (tf + f.x.mi + S))) := (by show _ = _; rw [HPQ.out, HRM.out, HR.out])
                        have hfr0 : 0 ≤ (max r (tf + f.x.mi + S)) := by rw [← HPV.out]; exact HPB.out.1
                        have hfr1 : (max r (tf + f.x.mi + S)) ≤ 100000000 := by rw [← HPV.out]; exact HPB.out.2
                        have HFR : Hid (refT p O M i e = nextF p ((max r (tf + f.x.mi + S))) e.x.mi) := by show nextF p (prevO p O M i e) e.x.mi = _; rw [HPV.out]
                        obtain ⟨T, hT⟩ : ∃ T, nextF p ((max r (tf + f.x.mi + S))) e.x.mi = T := ⟨_, rfl⟩
                        have HTT := hide hT
                        have HTB0 := hide (refT_le hv HRQ.out HRP.out hok HLK.out.b_at)
                        have hT0 : 0 ≤ T := by have h1 := HTB0.out.2.2.1; rw [← refT_key HKY.out HLK.out.bj HLK.out.bk HLK.out.bx, HFR.out, hT] at h1; exact h1
                        have HT1 : Hid (T ≤ b1.t) := by have h1 := HTB0.out.2.2.2.1; rw [← refT_key HKY.out HLK.out.bj HLK.out.bk HLK.out.bx, HFR.out, hT] at h1; exact h1
                        clear hT
                        have HSW3 := hS.on hB
                        have fs1 := fstep1
                        go_wp2_with fail
                        refine wp_region_quiet (C := fun w' => ∃ u : Since W, w' = u.w) (by kernel_rfl) (by kernel_rfl) (Since.start W) ?_
                        dsimp only
                        have y_c0 := Since.cell c0
                        have y_c1 := Since.cell c1
                        have y_c2 := Since.cell c2
                        have y_c3 := Since.cell c3
                        have y_c4 := Since.cell c4
                        have y_c5 := Since.cell c5
                        have y_x0 := Since.cell x0
                        have y_x1 := Since.cell x1
                        have y_x2 := Since.cell x2
                        have y_x3 := Since.cell x3
                        have y_d0 := Since.cell d0
                        have y_d1 := Since.cell d1
                        have y_hcp := Since.cell hcp
                        clear c0 c1 c2 c3 c4 c5 x0 x1 x2 x3
                        repeat (go_big_quiet_step ((first | (go_at_call 59; exact Since.calls (at_any ⟨p, aH, cH, some ⟨bs, offs, none⟩, cS, aJ, cJ⟩ e.j e.k st e.x _ (HSW3.on (Since.h _)) HLK.out.job HLK.out.step)) | (go_at_call 22; exact Since.calls (next_is_ ⟨p, aH, cH, some ⟨bs, offs, none⟩, cS, aJ, cJ⟩ ((max r (tf + f.x.mi + S))) e.x.mi T _ (HSW3.on (Since.h _)) hv hfr0 (by omega) xm1 xm2 HTT.out)))))
                        refine wpQuiet_nil ?_
                        rintro W ⟨⟨_, hb⟩, rfl⟩
                        try dsimp only at hb ⊢
                        replace d0 : W.cell? _ = _ := y_d0 ⟨W, hb⟩
                        replace d1 : W.cell? _ = _ := y_d1 ⟨W, hb⟩
                        replace hcp : W.cell? _ = _ := y_hcp ⟨W, hb⟩
                        clear y_c0 y_c1 y_c2 y_c3 y_c4 y_c5 y_x0 y_x1 y_x2 y_x3 y_d0 y_d1 y_hcp
                        replace hk := hk.below hb hk.lt
                        replace hOut := hOut.below hb
                        replace hL := (hL.below hb).more hb.size
                        replace hrow := hrow.below hb hrow.lt
                        replace hrow2 := hrow2.below hb hrow2.lt
                        replace gx := gx.below hb gx.lt
                        replace hB := hB.trans (hb.mono hB.size)
                        clear hb
                        have c0 := hk.cell_ 0 rfl
                        have c1 := hk.cell_ 1 rfl
                        have c2 := hk.cell_ 2 rfl
                        have c3 := hk.cell_ 3 rfl
                        have c4 := hk.cell_ 4 rfl
                        have c5 := hk.cell_ 5 rfl
                        have x0 := gx.cell_ 0 rfl
                        have x1 := gx.cell_ 1 rfl
                        have x2 := gx.cell_ 2 rfl
                        have x3 := gx.cell_ 3 rfl
                        have hct := hrow.cell_ e.k (ints_get HLK.out.start)
                        by_cases hgt : te < T
                        · go_wp2_with fail
                          refine wp_region_quiet (C := fun w' => ∃ u : Since W, w' = u.w) (by kernel_rfl) (by kernel_rfl) (Since.start W) ?_
                          dsimp only
                          have y_c0 := Since.cell c0
                          have y_c1 := Since.cell c1
                          have y_c2 := Since.cell c2
                          have y_c3 := Since.cell c3
                          have y_c4 := Since.cell c4
                          have y_c5 := Since.cell c5
                          have y_x0 := Since.cell x0
                          have y_x1 := Since.cell x1
                          have y_x2 := Since.cell x2
                          have y_x3 := Since.cell x3
                          have y_d0 := Since.cell d0
                          have y_d1 := Since.cell d1
                          have y_hcp := Since.cell hcp
                          have y_hct := Since.cell hct
                          clear c0 c1 c2 c3 c4 c5 x0 x1 x2 x3
                          repeat (go_big_quiet_step ((fail)))
                          refine wpQuiet_nil ?_
                          rintro W ⟨⟨_, hb⟩, rfl⟩
                          try dsimp only at hb ⊢
                          replace d0 : W.cell? _ = _ := y_d0 ⟨W, hb⟩
                          replace d1 : W.cell? _ = _ := y_d1 ⟨W, hb⟩
                          replace hcp : W.cell? _ = _ := y_hcp ⟨W, hb⟩
                          replace hct : W.cell? _ = _ := y_hct ⟨W, hb⟩
                          clear y_c0 y_c1 y_c2 y_c3 y_c4 y_c5 y_x0 y_x1 y_x2 y_x3 y_d0 y_d1 y_hcp y_hct
                          replace hk := hk.below hb hk.lt
                          replace hOut := hOut.below hb
                          replace hL := (hL.below hb).more hb.size
                          replace hrow := hrow.below hb hrow.lt
                          replace hrow2 := hrow2.below hb hrow2.lt
                          replace gx := gx.below hb gx.lt
                          replace hB := hB.trans (hb.mono hB.size)
                          clear hb
                          have c0 := hk.cell_ 0 rfl
                          have c1 := hk.cell_ 1 rfl
                          have c2 := hk.cell_ 2 rfl
                          have c3 := hk.cell_ 3 rfl
                          have c4 := hk.cell_ 4 rfl
                          have c5 := hk.cell_ 5 rfl
                          have x0 := gx.cell_ 0 rfl
                          have x1 := gx.cell_ 1 rfl
                          have x2 := gx.cell_ 2 rfl
                          have x3 := gx.cell_ 3 rfl
                          have HSZ := hide (show e.k < (ints l).size by rw [ints_size, HLK.out.len]; exact (List.getElem?_eq_some_iff.1 HLK.out.step).1)
                          go_wp2_with fail
                          refine wp_region_quiet_tail (C := fun w' => ∃ u : Since W, w' = u.w) 15 (by kernel_rfl) (by kernel_rfl) (Since.start W) ?_
                          simp only [List.take_succ_cons, List.take_zero, List.drop_succ_cons, List.drop_zero]
                          have y_c0 := Since.cell c0
                          have y_c1 := Since.cell c1
                          have y_c2 := Since.cell c2
                          have y_c3 := Since.cell c3
                          have y_c4 := Since.cell c4
                          have y_c5 := Since.cell c5
                          have y_x0 := Since.cell x0
                          have y_x1 := Since.cell x1
                          have y_x2 := Since.cell x2
                          have y_x3 := Since.cell x3
                          have y_d0 := Since.cell d0
                          have y_d1 := Since.cell d1
                          have y_hcp := Since.cell hcp
                          clear c0 c1 c2 c3 c4 c5 x0 x1 x2 x3
                          repeat (go_big_quiet_step ((fail)))
                          refine wpQuiet_nil ?_
                          rintro W ⟨⟨_, hb⟩, rfl⟩
                          try dsimp only at hb ⊢
                          replace d0 : W.cell? _ = _ := y_d0 ⟨W, hb⟩
                          replace d1 : W.cell? _ = _ := y_d1 ⟨W, hb⟩
                          replace hcp : W.cell? _ = _ := y_hcp ⟨W, hb⟩
                          clear y_c0 y_c1 y_c2 y_c3 y_c4 y_c5 y_x0 y_x1 y_x2 y_x3 y_d0 y_d1 y_hcp
                          replace hk := hk.below hb hk.lt
                          replace hOut := hOut.below hb
                          replace hL := (hL.below hb).more hb.size
                          replace hrow := hrow.below hb hrow.lt
                          replace hrow2 := hrow2.below hb hrow2.lt
                          replace gx := gx.below hb gx.lt
                          replace hB := hB.trans (hb.mono hB.size)
                          clear hb
                          have c0 := hk.cell_ 0 rfl
                          have c1 := hk.cell_ 1 rfl
                          have c2 := hk.cell_ 2 rfl
                          have c3 := hk.cell_ 3 rfl
                          have c4 := hk.cell_ 4 rfl
                          have c5 := hk.cell_ 5 rfl
                          have x0 := gx.cell_ 0 rfl
                          have x1 := gx.cell_ 1 rfl
                          have x2 := gx.cell_ 2 rfl
                          have x3 := gx.cell_ 3 rfl
                          go_wp2_with (refine wpList_store_at rfl 3 _ _ rfl (.int .i64 T) hrow rfl rfl (by kernel_rfl) rfl HSZ.out rfl ?_; intro W2 hrow2 hc2)
                          obtain ⟨hok2, hms⟩ := hok.raise (b := b1) (t := T) HRQ.out HTB0.out.2.2.2.2 (l := l) (by rw [HLK.out.bj]; exact HLK.out.row) (by rw [HLK.out.bj, HLK.out.bk, HLK.out.val]; exact hgt) HT1.out
                          rw [HLK.out.bj, HLK.out.bk] at hok2 hms
                          have hRN2 := hide (hRN.out.up (m' := m) (n' := i + 1) hms)
                          have hOut2 := hOut.set_ HBR.out HLK.out.row hrow2 hc2
                          have hL2 := hL.chgA hc2 (fun b' off' he' heq => HNE.out b' off' he' (by rw [heq]; exact List.mem_of_getElem? HBR.out))
                          have hsz2 := hc2.size
                          go_wp2_with fail
                          go_roundw
                          case rel => exact ⟨i + 1, _, true, rfl, by go_num, by omega, hok2, hRN2, hk.chg1 hc2 (by omega), hOut2, hL2.more hsz2, hB.trans (hc2.below1 hB.size (by omega))⟩
                          case measure => simp [intOf]; omega
                        · go_wp2_with fail
                          refine wp_region_quiet (C := fun w' => ∃ u : Since W, w' = u.w) (by kernel_rfl) (by kernel_rfl) (Since.start W) ?_
                          dsimp only
                          have y_c0 := Since.cell c0
                          have y_c1 := Since.cell c1
                          have y_c2 := Since.cell c2
                          have y_c3 := Since.cell c3
                          have y_c4 := Since.cell c4
                          have y_c5 := Since.cell c5
                          have y_x0 := Since.cell x0
                          have y_x1 := Since.cell x1
                          have y_x2 := Since.cell x2
                          have y_x3 := Since.cell x3
                          have y_d0 := Since.cell d0
                          have y_d1 := Since.cell d1
                          have y_hcp := Since.cell hcp
                          have y_hct := Since.cell hct
                          clear c0 c1 c2 c3 c4 c5 x0 x1 x2 x3
                          repeat (go_big_quiet_step ((fail)))
                          refine wpQuiet_nil ?_
                          rintro W ⟨⟨_, hb⟩, rfl⟩
                          try dsimp only at hb ⊢
                          replace d0 : W.cell? _ = _ := y_d0 ⟨W, hb⟩
                          replace d1 : W.cell? _ = _ := y_d1 ⟨W, hb⟩
                          replace hcp : W.cell? _ = _ := y_hcp ⟨W, hb⟩
                          replace hct : W.cell? _ = _ := y_hct ⟨W, hb⟩
                          clear y_c0 y_c1 y_c2 y_c3 y_c4 y_c5 y_x0 y_x1 y_x2 y_x3 y_d0 y_d1 y_hcp y_hct
                          replace hk := hk.below hb hk.lt
                          replace hOut := hOut.below hb
                          replace hL := (hL.below hb).more hb.size
                          replace hrow := hrow.below hb hrow.lt
                          replace hrow2 := hrow2.below hb hrow2.lt
                          replace gx := gx.below hb gx.lt
                          replace hB := hB.trans (hb.mono hB.size)
                          clear hb
                          have c0 := hk.cell_ 0 rfl
                          have c1 := hk.cell_ 1 rfl
                          have c2 := hk.cell_ 2 rfl
                          have c3 := hk.cell_ 3 rfl
                          have c4 := hk.cell_ 4 rfl
                          have c5 := hk.cell_ 5 rfl
                          have x0 := gx.cell_ 0 rfl
                          have x1 := gx.cell_ 1 rfl
                          have x2 := gx.cell_ 2 rfl
                          have x3 := gx.cell_ 3 rfl
                          have hRN2 := hide (hRN.out.pass HLK.out.b_at (by rw [← refT_key HKY.out HLK.out.bj HLK.out.bk HLK.out.bx, HFR.out, HTT.out, HLK.out.bj, HLK.out.bk, HLK.out.val]; omega))
                          go_wp2_with fail
                          go_roundw
                          case rel => exact ⟨i + 1, O, ag, rfl, by go_num, by omega, hok, hRN2, hk, hOut, hL, hB⟩
                          case measure => simp [intOf]; omega
                · obtain rfl : i = M.length := by omega
                  have hml2 : M.length = (R.filter (onB m)).length := by have := congrArg List.length HKY.out; simpa using this
                  have hRN2 : Hid (Rnd p R O gk0 (m + 1) 0 ag) := by
                    have h := hRN.out
                    rw [hml2] at h
                    exact h.next
                  clear hml2
                  go_wp2_with fail
                  go_roundw
                  case rel => exact ⟨m + 1, O, ag, rfl, by go_num, by omega, hok, hRN2, hk, hOut, hB⟩
                  case measure => simp [intOf]; omega
            · have hme : (m : Int) = p.mach := by omega
              cases ag with
              | true =>
                have HGG : Hid (meas R O + 1 < gk) := by
                  rcases hRN.out with h1 | h1
                  · rw [← HGK.out]; exact h1.2
                  · cases h1.1
                clear hme
                go_wp2_with fail
                go_roundg (meas R O + 1)
                case measure => exact HGG.out
                case rel => exact ⟨O, true, rfl, hok, hide (.inl ⟨rfl, Nat.le_refl _⟩), hk, hOut, hB⟩
              | false =>
                have hst := hRN.out.resolve_left (fun h => by cases h.1)
                have HEQ : Hid (O = pullF p pl) := by
                  show _ = _
                  rw [hPF.out]
                  exact hok.eq hv HRQ.out (refT_done hv HRQ.out HRP.out hok fun m' hm' n b hb => hst.2.2.1 m' (by omega) n b hb)
                have HGG : Hid (0 < gk) := by
                  have h1 := hst.2.1
                  have h2 := HGK.out
                  show 0 < gk
                  omega
                clear hme hst
                go_wp2_with fail
                go_roundg 0
                case measure => exact HGG.out
                case rel => exact ⟨O, false, rfl, hok, hide (.inr ⟨rfl, HEQ.out⟩), hk, hOut, hB⟩
end Go.Proofs.Ytcpnfcnobnjhdaa

/- The law ShopPulls: the walk. -/
namespace Go.Proofs.Ytcpnfcnobnjhdaa
open Go.RowKit
set_option maxRecDepth 200000 in
set_option maxHeartbeats 4000000 in
theorem pulls_walk (s : Sh) (A : Option Addr) (c : Nat) (pl : List (List Int)) (w : World) (hS : ShAt w w.heap.size s) (hf : Fits s.p) (hP : Plan w w.heap.size A pl) (hpf : PFits pl) :
    Calls Try.prog 12 #[.agg #[.int .i64 s.p.op, .int .i64 s.p.cl, .slice s.aH s.p.hol.length s.cH, .int .i64 s.p.mach, .slice s.aS s.p.setup.length s.cS, .slice s.aJ s.p.jobs.length s.cJ], .slice A pl.length c] w fun e w' => e = .returned (.bool true) ∧ Below w.heap.size w w' := by
  have hk := Blk.new w 25 #[.int .i64 s.p.op, .int .i64 s.p.cl, .slice s.aH s.p.hol.length s.cH, .int .i64 s.p.mach, .slice s.aS s.p.setup.length s.cS, .slice s.aJ s.p.jobs.length s.cJ]
  have hB := (Below.refl w.heap.size w).alloc (Nat.le_refl _) (.cells #[.int .i64 s.p.op, .int .i64 s.p.cl, .slice s.aH s.p.hol.length s.cH, .int .i64 s.p.mach, .slice s.aS s.p.setup.length s.cS, .slice s.aJ s.p.jobs.length s.cJ] 25)
  go_enter Try.func12, Try.ntmps12
  go_wp2_with fail
  generalize w.alloc (.cells #[.int .i64 s.p.op, .int .i64 s.p.cl, .slice s.aH s.p.hol.length s.cH, .int .i64 s.p.mach, .slice s.aS s.p.setup.length s.cS, .slice s.aJ s.p.jobs.length s.cJ] 25) = W at *
  have c0 := hk.cell_ 0 rfl
  have c1 := hk.cell_ 1 rfl
  have c2 := hk.cell_ 2 rfl
  have c3 := hk.cell_ 3 rfl
  have c4 := hk.cell_ 4 rfl
  have c5 := hk.cell_ 5 rfl
  go_wp2_with fail
  refine (long_any s _ (hS.on hB) hf.h1 hf.h2 hf.h3 hf.h4).mono ?_
  rintro e W ⟨rfl, hb⟩
  clear c0 c1 c2 c3 c4 c5
  replace hk := hk.below hb hk.lt
  replace hB := hB.trans (hb.mono hB.size)
  clear hb
  have c0 := hk.cell_ 0 rfl
  have c1 := hk.cell_ 1 rfl
  have c2 := hk.cell_ 2 rfl
  have c3 := hk.cell_ 3 rfl
  have c4 := hk.cell_ 4 rfl
  have c5 := hk.cell_ 5 rfl
  cases hl : longB s.p
  case true =>
    go_wp2_with fail
    refine (first_any _).mono ?_
    rintro e W ⟨rfl, hb⟩
    clear c0 c1 c2 c3 c4 c5
    replace hk := hk.below hb hk.lt
    replace hB := hB.trans (hb.mono hB.size)
    clear hb
    have c0 := hk.cell_ 0 rfl
    have c1 := hk.cell_ 1 rfl
    have c2 := hk.cell_ 2 rfl
    have c3 := hk.cell_ 3 rfl
    have c4 := hk.cell_ 4 rfl
    have c5 := hk.cell_ 5 rfl
    go_wp2_with fail
    go_ret
    exact ⟨rfl, hB⟩
  go_wp2_with fail
  refine (wide_any A c pl _ (hP.on hB) hpf).mono ?_
  rintro e W ⟨rfl, hb⟩
  clear c0 c1 c2 c3 c4 c5
  replace hk := hk.below hb hk.lt
  replace hB := hB.trans (hb.mono hB.size)
  clear hb
  have c0 := hk.cell_ 0 rfl
  have c1 := hk.cell_ 1 rfl
  have c2 := hk.cell_ 2 rfl
  have c3 := hk.cell_ 3 rfl
  have c4 := hk.cell_ 4 rfl
  have c5 := hk.cell_ 5 rfl
  cases hw : wideB pl
  case true =>
    go_wp2_with fail
    refine (first_any _).mono ?_
    rintro e W ⟨rfl, hb⟩
    clear c0 c1 c2 c3 c4 c5
    replace hk := hk.below hb hk.lt
    replace hB := hB.trans (hb.mono hB.size)
    clear hb
    have c0 := hk.cell_ 0 rfl
    have c1 := hk.cell_ 1 rfl
    have c2 := hk.cell_ 2 rfl
    have c3 := hk.cell_ 3 rfl
    have c4 := hk.cell_ 4 rfl
    have c5 := hk.cell_ 5 rfl
    go_wp2_with fail
    go_ret
    exact ⟨rfl, hB⟩
  go_wp2_with fail
  refine (refValid_any s _ (hS.on hB) hf.h1 hf.h2 hf.h3 hf.h4).mono ?_
  rintro e W ⟨rfl, hb⟩
  clear c0 c1 c2 c3 c4 c5
  replace hk := hk.below hb hk.lt
  replace hB := hB.trans (hb.mono hB.size)
  clear hb
  have c0 := hk.cell_ 0 rfl
  have c1 := hk.cell_ 1 rfl
  have c2 := hk.cell_ 2 rfl
  have c3 := hk.cell_ 3 rfl
  have c4 := hk.cell_ 4 rfl
  have c5 := hk.cell_ 5 rfl
  cases hvB : validShop s.p
  case false =>
    go_wp2_with fail
    refine (first_any _).mono ?_
    rintro e W ⟨rfl, hb⟩
    clear c0 c1 c2 c3 c4 c5
    replace hk := hk.below hb hk.lt
    replace hB := hB.trans (hb.mono hB.size)
    clear hb
    have c0 := hk.cell_ 0 rfl
    have c1 := hk.cell_ 1 rfl
    have c2 := hk.cell_ 2 rfl
    have c3 := hk.cell_ 3 rfl
    have c4 := hk.cell_ 4 rfl
    have c5 := hk.cell_ 5 rfl
    go_wp2_with fail
    go_ret
    exact ⟨rfl, hB⟩
  have hv := valid_facts hvB
  have hjn := hv.jobn
  have HV3 : Hid (V3 (judgeF s.p pl) = .tuple #[.int .i64 (judgeF s.p pl).1, .int .i64 (judgeF s.p pl).2.1, .int .i64 (judgeF s.p pl).2.2]) := rfl
  by_cases hz : (judgeF s.p pl).2.2 = 0
  · have HPV := hide (show pullV s.p pl = pullF s.p pl by unfold pullV; rw [if_pos hz])
    have HFT := hide (fits_of hv (pull_right hv hz).shape)
    have HZ := hide hz
    clear hz
    go_wp2_with fail
    refine (pull_any s A c pl _ (hS.on hB) hvB (hP.on hB) hpf).mono ?_
    rintro e W9 ⟨A1, k1, rfl, hb, hP1⟩
    obtain ⟨W, rfl⟩ : ∃ W : World, W = W9 := ⟨_, rfl⟩
    clear c0 c1 c2 c3 c4 c5
    replace hk := hk.below hb hk.lt
    replace hB := hB.trans (hb.mono hB.size)
    clear hb
    have c0 := hk.cell_ 0 rfl
    have c1 := hk.cell_ 1 rfl
    have c2 := hk.cell_ 2 rfl
    have c3 := hk.cell_ 3 rfl
    have c4 := hk.cell_ 4 rfl
    have c5 := hk.cell_ 5 rfl
    rw [HPV.out, HZ.out]
    rw [HPV.out] at hP1
    go_wp2_with fail
    refine (refJudge_any s A c pl _ (hS.on hB) hv (hP.on hB) hpf).mono ?_
    rintro e W ⟨rfl, hb⟩
    clear c0 c1 c2 c3 c4 c5
    replace hk := hk.below hb hk.lt
    replace hP1 := hP1.on hb
    replace hB := hB.trans (hb.mono hB.size)
    clear hb
    have c0 := hk.cell_ 0 rfl
    have c1 := hk.cell_ 1 rfl
    have c2 := hk.cell_ 2 rfl
    have c3 := hk.cell_ 3 rfl
    have c4 := hk.cell_ 4 rfl
    have c5 := hk.cell_ 5 rfl
    rw [HV3.out, HZ.out]
    go_wp2_with fail
    refine (refPull_any s A c pl _ (hS.on hB) hv (hP.on hB) HZ.out).mono ?_
    rintro e W ⟨A2, k2, rfl, hb, hP2⟩
    clear c0 c1 c2 c3 c4 c5
    replace hk := hk.below hb hk.lt
    replace hP1 := hP1.on hb
    replace hB := hB.trans (hb.mono hB.size)
    clear hb
    have c0 := hk.cell_ 0 rfl
    have c1 := hk.cell_ 1 rfl
    have c2 := hk.cell_ 2 rfl
    have c3 := hk.cell_ 3 rfl
    have c4 := hk.cell_ 4 rfl
    have c5 := hk.cell_ 5 rfl
    go_wp2_with fail
    refine (samePlan_any A1 A2 k1 k2 (pullF s.p pl) _ hP1 hP2 HFT.out).mono ?_
    rintro e W ⟨rfl, hb⟩
    clear c0 c1 c2 c3 c4 c5
    replace hk := hk.below hb hk.lt
    replace hP1 := hP1.on hb
    replace hP2 := hP2.on hb
    replace hB := hB.trans (hb.mono hB.size)
    clear hb
    have c0 := hk.cell_ 0 rfl
    have c1 := hk.cell_ 1 rfl
    have c2 := hk.cell_ 2 rfl
    have c3 := hk.cell_ 3 rfl
    have c4 := hk.cell_ 4 rfl
    have c5 := hk.cell_ 5 rfl
    go_wp2_with fail
    refine (first_any _).mono ?_
    rintro e W ⟨rfl, hb⟩
    clear c0 c1 c2 c3 c4 c5
    replace hk := hk.below hb hk.lt
    replace hP1 := hP1.on hb
    replace hP2 := hP2.on hb
    replace hB := hB.trans (hb.mono hB.size)
    clear hb
    have c0 := hk.cell_ 0 rfl
    have c1 := hk.cell_ 1 rfl
    have c2 := hk.cell_ 2 rfl
    have c3 := hk.cell_ 3 rfl
    have c4 := hk.cell_ 4 rfl
    have c5 := hk.cell_ 5 rfl
    go_wp2_with fail
    go_ret
    exact ⟨rfl, hB⟩
  · have HPV := hide (show pullV s.p pl = [] by unfold pullV; rw [if_neg hz])
    have hzb : ((judgeF s.p pl).2.2 != 0) = true := by simpa using hz
    have HZ := hide hz
    clear hz
    go_wp2_with fail
    refine (pull_any s A c pl _ (hS.on hB) hvB (hP.on hB) hpf).mono ?_
    rintro e W9 ⟨A1, k1, rfl, hb, hP1⟩
    obtain ⟨W, rfl⟩ : ∃ W : World, W = W9 := ⟨_, rfl⟩
    clear c0 c1 c2 c3 c4 c5
    replace hk := hk.below hb hk.lt
    replace hB := hB.trans (hb.mono hB.size)
    clear hb
    have c0 := hk.cell_ 0 rfl
    have c1 := hk.cell_ 1 rfl
    have c2 := hk.cell_ 2 rfl
    have c3 := hk.cell_ 3 rfl
    have c4 := hk.cell_ 4 rfl
    have c5 := hk.cell_ 5 rfl
    rw [HPV.out]
    clear hP1
    go_wp2_with fail
    refine (refJudge_any s A c pl _ (hS.on hB) hv (hP.on hB) hpf).mono ?_
    rintro e W ⟨rfl, hb⟩
    clear c0 c1 c2 c3 c4 c5
    replace hk := hk.below hb hk.lt
    replace hB := hB.trans (hb.mono hB.size)
    clear hb
    have c0 := hk.cell_ 0 rfl
    have c1 := hk.cell_ 1 rfl
    have c2 := hk.cell_ 2 rfl
    have c3 := hk.cell_ 3 rfl
    have c4 := hk.cell_ 4 rfl
    have c5 := hk.cell_ 5 rfl
    rw [HV3.out]
    go_wp2_with fail
    refine (first_any _).mono ?_
    rintro e W ⟨rfl, hb⟩
    clear c0 c1 c2 c3 c4 c5
    replace hk := hk.below hb hk.lt
    replace hB := hB.trans (hb.mono hB.size)
    clear hb
    have c0 := hk.cell_ 0 rfl
    have c1 := hk.cell_ 1 rfl
    have c2 := hk.cell_ 2 rfl
    have c3 := hk.cell_ 3 rfl
    have c4 := hk.cell_ 4 rfl
    have c5 := hk.cell_ 5 rfl
    go_wp2_with fail
    go_ret
    exact ⟨rfl, hB⟩
end Go.Proofs.Ytcpnfcnobnjhdaa

/- What Dispatch plans is right: the plain law. -/
namespace Go.Proofs.Ytcpnfcnobnjhdaa
open Go Go.Sort Go.RowKit StabAt
/-- the steps that have been put so far -/
structure DispR (p : Shop) (R : List At) (S : DS) : Prop where
  ok : ∀ a ∈ R, ∃ s, p.jobs[a.j]? = some s ∧ s[a.k]? = some a.x
  asc : R.Pairwise fun a b => a.j = b.j → a.k < b.k
  rows : ∀ (j : Nat) l, S.pl[j]? = some l → ∀ (k : Nat) t, l[k]? = some t ↔ ∃ a ∈ R, a.j = j ∧ a.k = k ∧ a.t = t
  last : ∀ m, look S.last m = lastP (onB m) R
  placed : Placed p R
theorem DispR.start (p : Shop) : DispR p [] (ds0 p) := by
  refine ⟨fun a h => (by cases h), List.Pairwise.nil, fun j l hl k t => ?_, fun m => rfl, fun i b h => by simp at h⟩
  have : l = [] := by
    simp [ds0, List.getElem?_replicate] at hl
    exact hl.2
  subst this
  simp
theorem DispR.rdy_ {p : Shop} {R : List At} {S : DS} (h : DispR p R S) {j : Nat} {st : List Step} {l : List Int} (hj : p.jobs[j]? = some st) (hl : S.pl[j]? = some l) : rdyR R j = rdy st l := by
  have hr := h.rows j l hl
  unfold rdyR rdy
  cases hlp : lastP (ofJ j) R with
  | none =>
    have hn : l.length = 0 := by
      rcases Nat.eq_zero_or_pos l.length with h0 | h0
      · exact h0
      · obtain ⟨a, ha, e1, _⟩ := (hr 0 l[0]).1 (List.getElem?_eq_getElem h0)
        have := lastP_none hlp a ha
        simp [ofJ, e1] at this
    rw [hn]
  | some b =>
    obtain ⟨i, h1, h2, h3⟩ := lastP_some hlp
    have hbj : b.j = j := by simpa [ofJ] using h2
    have hbm := List.mem_of_getElem? h1
    have hbk : l[b.k]? = some b.t := (hr b.k b.t).2 ⟨b, hbm, hbj, rfl, rfl⟩
    have hlt := (List.getElem?_eq_some_iff.1 hbk).1
    have hlen : l.length = b.k + 1 := by
      rcases Nat.lt_or_ge (b.k + 1) l.length with h4 | h4
      · exfalso
        obtain ⟨a, ha, e1, e2, _⟩ := (hr (b.k + 1) l[b.k + 1]).1 (List.getElem?_eq_getElem h4)
        obtain ⟨i', hi'⟩ := List.getElem?_of_mem ha
        rcases Nat.lt_trichotomy i i' with h5 | h5 | h5
        · have := h3 i' a h5 hi'; simp [ofJ, e1] at this
        · subst h5; rw [h1] at hi'; injection hi' with hi'; subst hi'; omega
        · have := pair_get h.asc h5 hi' h1 (by rw [e1, hbj]); omega
      · omega
    obtain ⟨s, g1, g2⟩ := h.ok b hbm
    rw [hbj, hj] at g1
    injection g1 with g1
    subst g1
    rw [hlen]
    simp only
    rw [List.getD_eq_getElem?_getD, List.getD_eq_getElem?_getD, hbk, g2]
    rfl
theorem DispR.put_ {p : Shop} (hv : VShop p) {R : List At} {S : DS} (h : DispR p R S) (hs : VS p S) {j : Nat} {t : Int} (hb : bestF p S = some (j, t)) : ∃ R', DispR p R' (putS p S j t) := by
  obtain ⟨st, l, x, h1, h2, h3, h4, h5, h6, h7⟩ := best_at hv hs hb
  have htl := total_le hv
  have hfrom : startF p R ⟨j, l.length, t, x⟩ = t := by
    rw [h4]
    unfold startF fromR prevF
    show nextF p (match lastP (onB x.m) R with | none => rdyR R j | some b => max (rdyR R j) (roomF p b x.c)) x.mi = _
    rw [h.last, h.rdy_ h1 h2]
    cases lastP (onB x.m) R <;> rfl
  have hnew : ∀ a ∈ R, a.j = j → a.k < l.length := fun a ha hj => (List.getElem?_eq_some_iff.1 ((h.rows j l h2 a.k a.t).2 ⟨a, ha, hj, rfl, rfl⟩)).1
  refine ⟨R ++ [⟨j, l.length, t, x⟩], fun a ha => ?_, ?_, fun j' l' hl' k t' => ?_, fun m => ?_, fun i b hi => ?_⟩
  · rcases List.mem_append.1 ha with ha | ha
    · exact h.ok a ha
    · simp at ha; subst ha; exact ⟨st, h1, h3⟩
  · rw [List.pairwise_append]
    refine ⟨h.asc, by simp, fun a ha b hb' hj => ?_⟩
    simp at hb'; subst hb'
    exact hnew a ha hj
  · rw [putS_eq t h1 h2 h3] at hl'
    replace hl' : (S.pl.modify j fun l => l ++ [t])[j']? = some l' := hl'
    rw [modify_get] at hl'
    by_cases hjj : j = j'
    · subst hjj
      rw [if_pos rfl, h2] at hl'
      simp only [Option.map_some, Option.some.injEq] at hl'
      subst hl'
      constructor
      · intro hk
        by_cases hkl : k < l.length
        · rw [List.getElem?_append_left hkl] at hk
          obtain ⟨a, ha, e⟩ := (h.rows j l h2 k t').1 hk
          exact ⟨a, by simp [ha], e⟩
        · have hlt := (List.getElem?_eq_some_iff.1 hk).1
          simp at hlt
          obtain rfl : k = l.length := by omega
          simp at hk
          subst hk
          exact ⟨⟨j, l.length, t, x⟩, by simp, rfl, rfl, rfl⟩
      · rintro ⟨a, ha, e1, e2, e3⟩
        rcases List.mem_append.1 ha with ha | ha
        · have hk := (h.rows j l h2 k t').2 ⟨a, ha, e1, e2, e3⟩
          rw [List.getElem?_append_left (List.getElem?_eq_some_iff.1 hk).1]
          exact hk
        · simp at ha; subst ha
          replace e2 : l.length = k := e2
          replace e3 : t = t' := e3
          subst e2 e3
          simp
    · rw [if_neg hjj] at hl'
      rw [h.rows j' l' hl' k t']
      constructor
      · rintro ⟨a, ha, e⟩; exact ⟨a, by simp [ha], e⟩
      · rintro ⟨a, ha, e1, e⟩
        rcases List.mem_append.1 ha with ha | ha
        · exact ⟨a, ha, e1, e⟩
        · simp at ha; subst ha; exact absurd e1 hjj
  · rw [putS_eq t h1 h2 h3, lastP_snoc]
    show look (put S.last x.m _) m = _
    rw [look_put, h.last]
    by_cases hm : m = x.m
    · subst hm; simp [onB]
    · rw [if_neg hm, if_neg (by simp only [onB, decide_eq_true_eq]; exact fun h => hm h.symm)]
  · by_cases hil : i < R.length
    · rw [List.getElem?_append_left hil] at hi
      have := h.placed i b hi
      rw [List.take_append_of_le_length (by omega)]
      exact this
    · have hlt := (List.getElem?_eq_some_iff.1 hi).1
      simp at hlt
      obtain rfl : i = R.length := by omega
      simp at hi
      subst hi
      rw [List.take_left]
      refine ⟨hfrom.symm, h5, ?_⟩
      show t ≤ _
      unfold bd at h6
      push_cast at h6
      omega
theorem DispR.iter {p : Shop} (hv : VShop p) : ∀ (n : Nat) {S : DS} {R : List At}, VS p S → DispR p R S → ∃ R', DispR p R' (iterS p n S)
  | 0, S, R, _, h => ⟨R, h⟩
  | n + 1, S, R, hs, h => by
    cases hb : bestF p S with
    | none => rw [iterS_none hb]; exact ⟨R, h⟩
    | some q =>
      obtain ⟨j, t⟩ := q
      rw [iterS_some hb]
      obtain ⟨R', h'⟩ := h.put_ hv hs hb
      exact DispR.iter hv n (hs.put_ hv hb).1 h'
theorem iter_done {p : Shop} (hv : VShop p) : ∀ (n : Nat) {S : DS}, VS p S → n + cnt S.pl = total p → bestF p (iterS p n S) = none
  | 0, S, hs, h => by
    show bestF p S = none
    cases hb : bestF p S with
    | none => rfl
    | some q =>
      obtain ⟨j, t⟩ := q
      obtain ⟨st, l, x, _, _, _, _, _, _, h7⟩ := best_at hv hs hb
      omega
  | n + 1, S, hs, h => by
    cases hb : bestF p S with
    | none => rw [iterS_none hb]; exact hb
    | some q =>
      obtain ⟨j, t⟩ := q
      rw [iterS_some hb]
      obtain ⟨h1, h2⟩ := hs.put_ hv hb
      exact iter_done hv n h1 (by omega)
/-- what Dispatch returns, as steps that were put one by one -/
theorem disp_placed {p : Shop} (hv : VShop p) : ∃ R, SeqOk p R ∧ Placed p R ∧ dispF p = planR p R := by
  obtain ⟨R, h⟩ := DispR.iter hv (total p) (VS.start p) (DispR.start p)
  have hvs := VS.iter hv (total p) (VS.start p)
  have hn := iter_done hv (total p) (VS.start p) (by rw [cnt_start]; omega)
  have hc := (bestFrom_none hn).2
  have hfull : ∀ (j : Nat) st l, p.jobs[j]? = some st → (iterS p (total p) (ds0 p)).pl[j]? = some l → l.length = st.length := fun j st l hj hl => by
    have h1 := hc j st l hj hl
    have h2 := (hvs.row j st l hj hl).1
    unfold candT at h1
    cases hx : st[l.length]? with
    | none => have := List.getElem?_eq_none_iff.1 hx; omega
    | some x => rw [hx] at h1; cases h1
  have hlen : ∀ (j : Nat) st, p.jobs[j]? = some st → ∃ l, (iterS p (total p) (ds0 p)).pl[j]? = some l := fun j st hj => ⟨_, List.getElem?_eq_getElem (by rw [hvs.len]; exact (List.getElem?_eq_some_iff.1 hj).1)⟩
  have hq : SeqOk p R := by
    refine ⟨h.ok, h.asc, fun j k s x hj hk => ?_⟩
    obtain ⟨l, hl⟩ := hlen j s hj
    have hkl : k < l.length := by rw [hfull j s l hj hl]; exact (List.getElem?_eq_some_iff.1 hk).1
    obtain ⟨a, ha, e1, e2, _⟩ := (h.rows j l hl k l[k]).1 (List.getElem?_eq_getElem hkl)
    exact ⟨a, ha, e1, e2⟩
  refine ⟨R, hq, h.placed, ?_⟩
  unfold dispF
  apply List.ext_getElem?
  intro j
  by_cases hj : j < p.jobs.length
  · have hs : p.jobs[j]? = some p.jobs[j] := List.getElem?_eq_getElem hj
    obtain ⟨l, hl⟩ := hlen j _ hs
    rw [planR_row hs, hl]
    congr 1
    have hll := hfull j _ l hs hl
    apply List.ext_getElem?
    intro k
    by_cases hk : k < l.length
    · obtain ⟨a, ha, e1, e2, e3⟩ := (h.rows j l hl k l[k]).1 (List.getElem?_eq_getElem hk)
      rw [List.getElem?_eq_getElem hk, List.getElem?_map, List.getElem?_range (by omega)]
      simp only [Option.map_some]
      have h9 := tOf_eq hq ha
      rw [e1, e2, e3] at h9
      rw [h9]
    · rw [List.getElem?_eq_none (by omega), List.getElem?_eq_none (by simp; omega)]
  · rw [List.getElem?_eq_none (by rw [hvs.len]; omega), List.getElem?_eq_none (by rw [planR_len]; omega)]
theorem disp_right {p : Shop} (hv : VShop p) : RightP p (dispF p) := by
  obtain ⟨R, h1, h2, h3⟩ := disp_placed hv
  rw [h3]
  exact placed_right hv h1 h2
theorem disp_judge {p : Shop} (hv : VShop p) : (judgeF p (dispF p)).2.2 = 0 := (disp_right hv).judge
end Go.Proofs.Ytcpnfcnobnjhdaa

/- The law ShopRight: the walk. -/
namespace Go.Proofs.Ytcpnfcnobnjhdaa
open Go.RowKit
theorem v3 (p : Shop) (pl : List (List Int)) : V3 (judgeF p pl) = .tuple #[.int .i64 (judgeF p pl).1, .int .i64 (judgeF p pl).2.1, .int .i64 (judgeF p pl).2.2] := rfl
set_option maxRecDepth 200000 in
set_option maxHeartbeats 4000000 in
theorem right_walk (s : Sh) (A : Option Addr) (c : Nat) (pl : List (List Int)) (w : World) (hS : ShAt w w.heap.size s) (hf : Fits s.p) (hP : Plan w w.heap.size A pl) (hpf : PFits pl) :
    Calls Try.prog 16 #[.agg #[.int .i64 s.p.op, .int .i64 s.p.cl, .slice s.aH s.p.hol.length s.cH, .int .i64 s.p.mach, .slice s.aS s.p.setup.length s.cS, .slice s.aJ s.p.jobs.length s.cJ], .slice A pl.length c] w fun e w' => e = .returned (.bool true) ∧ Below w.heap.size w w' := by
  have hk := Blk.new w 25 #[.int .i64 s.p.op, .int .i64 s.p.cl, .slice s.aH s.p.hol.length s.cH, .int .i64 s.p.mach, .slice s.aS s.p.setup.length s.cS, .slice s.aJ s.p.jobs.length s.cJ]
  have hB := (Below.refl w.heap.size w).alloc (Nat.le_refl _) (.cells #[.int .i64 s.p.op, .int .i64 s.p.cl, .slice s.aH s.p.hol.length s.cH, .int .i64 s.p.mach, .slice s.aS s.p.setup.length s.cS, .slice s.aJ s.p.jobs.length s.cJ] 25)
  go_enter Try.func16, Try.ntmps16
  go_wp2_with fail
  generalize w.alloc (.cells #[.int .i64 s.p.op, .int .i64 s.p.cl, .slice s.aH s.p.hol.length s.cH, .int .i64 s.p.mach, .slice s.aS s.p.setup.length s.cS, .slice s.aJ s.p.jobs.length s.cJ] 25) = W at *
  have c0 := hk.cell_ 0 rfl
  have c1 := hk.cell_ 1 rfl
  have c2 := hk.cell_ 2 rfl
  have c3 := hk.cell_ 3 rfl
  have c4 := hk.cell_ 4 rfl
  have c5 := hk.cell_ 5 rfl
  go_wp2_with fail
  refine (long_any s _ (hS.on hB) hf.h1 hf.h2 hf.h3 hf.h4).mono ?_
  rintro e W ⟨rfl, hb⟩
  clear c0 c1 c2 c3 c4 c5
  replace hk := hk.below hb hk.lt
  replace hB := hB.trans (hb.mono hB.size)
  clear hb
  have c0 := hk.cell_ 0 rfl
  have c1 := hk.cell_ 1 rfl
  have c2 := hk.cell_ 2 rfl
  have c3 := hk.cell_ 3 rfl
  have c4 := hk.cell_ 4 rfl
  have c5 := hk.cell_ 5 rfl
  cases hl : longB s.p
  case true =>
    go_wp2_with fail
    refine (first_any _).mono ?_
    rintro e W ⟨rfl, hb⟩
    clear c0 c1 c2 c3 c4 c5
    replace hk := hk.below hb hk.lt
    replace hB := hB.trans (hb.mono hB.size)
    clear hb
    have c0 := hk.cell_ 0 rfl
    have c1 := hk.cell_ 1 rfl
    have c2 := hk.cell_ 2 rfl
    have c3 := hk.cell_ 3 rfl
    have c4 := hk.cell_ 4 rfl
    have c5 := hk.cell_ 5 rfl
    go_wp2_with fail
    go_ret
    exact ⟨rfl, hB⟩
  go_wp2_with fail
  refine (wide_any A c pl _ (hP.on hB) hpf).mono ?_
  rintro e W ⟨rfl, hb⟩
  clear c0 c1 c2 c3 c4 c5
  replace hk := hk.below hb hk.lt
  replace hB := hB.trans (hb.mono hB.size)
  clear hb
  have c0 := hk.cell_ 0 rfl
  have c1 := hk.cell_ 1 rfl
  have c2 := hk.cell_ 2 rfl
  have c3 := hk.cell_ 3 rfl
  have c4 := hk.cell_ 4 rfl
  have c5 := hk.cell_ 5 rfl
  cases hw : wideB pl
  case true =>
    go_wp2_with fail
    refine (first_any _).mono ?_
    rintro e W ⟨rfl, hb⟩
    clear c0 c1 c2 c3 c4 c5
    replace hk := hk.below hb hk.lt
    replace hB := hB.trans (hb.mono hB.size)
    clear hb
    have c0 := hk.cell_ 0 rfl
    have c1 := hk.cell_ 1 rfl
    have c2 := hk.cell_ 2 rfl
    have c3 := hk.cell_ 3 rfl
    have c4 := hk.cell_ 4 rfl
    have c5 := hk.cell_ 5 rfl
    go_wp2_with fail
    go_ret
    exact ⟨rfl, hB⟩
  go_wp2_with fail
  refine (refValid_any s _ (hS.on hB) hf.h1 hf.h2 hf.h3 hf.h4).mono ?_
  rintro e W ⟨rfl, hb⟩
  clear c0 c1 c2 c3 c4 c5
  replace hk := hk.below hb hk.lt
  replace hB := hB.trans (hb.mono hB.size)
  clear hb
  have c0 := hk.cell_ 0 rfl
  have c1 := hk.cell_ 1 rfl
  have c2 := hk.cell_ 2 rfl
  have c3 := hk.cell_ 3 rfl
  have c4 := hk.cell_ 4 rfl
  have c5 := hk.cell_ 5 rfl
  cases hvB : validShop s.p
  case false =>
    go_wp2_with fail
    refine (first_any _).mono ?_
    rintro e W ⟨rfl, hb⟩
    clear c0 c1 c2 c3 c4 c5
    replace hk := hk.below hb hk.lt
    replace hB := hB.trans (hb.mono hB.size)
    clear hb
    have c0 := hk.cell_ 0 rfl
    have c1 := hk.cell_ 1 rfl
    have c2 := hk.cell_ 2 rfl
    have c3 := hk.cell_ 3 rfl
    have c4 := hk.cell_ 4 rfl
    have c5 := hk.cell_ 5 rfl
    go_wp2_with fail
    go_ret
    exact ⟨rfl, hB⟩
  have hv := valid_facts hvB
  have HDJ := hide (disp_judge hv)
  have hde : boundF s.p ≤ endV s.p (dispF s.p) := bound_end hv HDJ.out
  have HDF := hide (dispF_fits hv)
  have HV3 := hide (v3 s.p)
  go_wp2_with fail
  refine (bound_any s _ (hS.on hB) hvB).mono ?_
  rintro e W ⟨rfl, hb⟩
  clear c0 c1 c2 c3 c4 c5
  replace hk := hk.below hb hk.lt
  replace hB := hB.trans (hb.mono hB.size)
  clear hb
  have c0 := hk.cell_ 0 rfl
  have c1 := hk.cell_ 1 rfl
  have c2 := hk.cell_ 2 rfl
  have c3 := hk.cell_ 3 rfl
  have c4 := hk.cell_ 4 rfl
  have c5 := hk.cell_ 5 rfl
  go_wp2_with fail
  refine (dispatch_any s _ (hS.on hB) hvB).mono ?_
  rintro e W ⟨A1, k1, rfl, hb, hP1⟩
  clear c0 c1 c2 c3 c4 c5
  replace hk := hk.below hb hk.lt
  replace hB := hB.trans (hb.mono hB.size)
  clear hb
  have c0 := hk.cell_ 0 rfl
  have c1 := hk.cell_ 1 rfl
  have c2 := hk.cell_ 2 rfl
  have c3 := hk.cell_ 3 rfl
  have c4 := hk.cell_ 4 rfl
  have c5 := hk.cell_ 5 rfl
  go_wp2_with fail
  refine (apiJudge_any s A1 k1 (dispF s.p) _ (hS.on hB) hvB hP1 HDF.out).mono ?_
  rintro e W ⟨rfl, hb⟩
  clear c0 c1 c2 c3 c4 c5
  replace hk := hk.below hb hk.lt
  replace hP1 := hP1.on hb
  replace hB := hB.trans (hb.mono hB.size)
  clear hb
  have c0 := hk.cell_ 0 rfl
  have c1 := hk.cell_ 1 rfl
  have c2 := hk.cell_ 2 rfl
  have c3 := hk.cell_ 3 rfl
  have c4 := hk.cell_ 4 rfl
  have c5 := hk.cell_ 5 rfl
  rw [HV3.out, HDJ.out]
  go_wp2_with fail
  refine (apiEnd_any s A1 k1 (dispF s.p) _ (hS.on hB) hvB hP1 HDF.out).mono ?_
  rintro e W ⟨rfl, hb⟩
  clear c0 c1 c2 c3 c4 c5
  replace hk := hk.below hb hk.lt
  replace hP1 := hP1.on hb
  replace hB := hB.trans (hb.mono hB.size)
  clear hb
  have c0 := hk.cell_ 0 rfl
  have c1 := hk.cell_ 1 rfl
  have c2 := hk.cell_ 2 rfl
  have c3 := hk.cell_ 3 rfl
  have c4 := hk.cell_ 4 rfl
  have c5 := hk.cell_ 5 rfl
  rw [HDJ.out]
  go_wp2_with fail
  refine (refJudge_any s A c pl _ (hS.on hB) hv (hP.on hB) hpf).mono ?_
  rintro e W ⟨rfl, hb⟩
  clear c0 c1 c2 c3 c4 c5
  replace hk := hk.below hb hk.lt
  replace hP1 := hP1.on hb
  replace hB := hB.trans (hb.mono hB.size)
  clear hb
  have c0 := hk.cell_ 0 rfl
  have c1 := hk.cell_ 1 rfl
  have c2 := hk.cell_ 2 rfl
  have c3 := hk.cell_ 3 rfl
  have c4 := hk.cell_ 4 rfl
  have c5 := hk.cell_ 5 rfl
  rw [HV3.out]
  by_cases hz : (judgeF s.p pl).2.2 = 0
  · have HPJ := hide (pull_judge hv hz)
    have hpe : boundF s.p ≤ endV s.p (pullF s.p pl) := bound_end hv HPJ.out
    have HPF := hide (fits_of hv (pull_right hv hz).shape)
    have HPV := hide (show pullV s.p pl = pullF s.p pl by unfold pullV; rw [if_pos hz])
    have HZ := hide hz
    rw [HZ.out]
    clear hz
    clear hP1
    go_wp2_with fail
    refine (pull_any s A c pl _ (hS.on hB) hvB (hP.on hB) hpf).mono ?_
    rintro e W9 ⟨A2, k2, rfl, hb, hP2⟩
    obtain ⟨W, rfl⟩ : ∃ W : World, W = W9 := ⟨_, rfl⟩
    clear c0 c1 c2 c3 c4 c5
    replace hk := hk.below hb hk.lt
    replace hB := hB.trans (hb.mono hB.size)
    clear hb
    have c0 := hk.cell_ 0 rfl
    have c1 := hk.cell_ 1 rfl
    have c2 := hk.cell_ 2 rfl
    have c3 := hk.cell_ 3 rfl
    have c4 := hk.cell_ 4 rfl
    have c5 := hk.cell_ 5 rfl
    rw [HPV.out, HZ.out]
    rw [HPV.out] at hP2
    go_wp2_with fail
    refine (apiJudge_any s A2 k2 (pullF s.p pl) _ (hS.on hB) hvB hP2 HPF.out).mono ?_
    rintro e W ⟨rfl, hb⟩
    clear c0 c1 c2 c3 c4 c5
    replace hk := hk.below hb hk.lt
    replace hP2 := hP2.on hb
    replace hB := hB.trans (hb.mono hB.size)
    clear hb
    have c0 := hk.cell_ 0 rfl
    have c1 := hk.cell_ 1 rfl
    have c2 := hk.cell_ 2 rfl
    have c3 := hk.cell_ 3 rfl
    have c4 := hk.cell_ 4 rfl
    have c5 := hk.cell_ 5 rfl
    rw [HV3.out, HPJ.out]
    go_wp2_with fail
    refine (apiEnd_any s A2 k2 (pullF s.p pl) _ (hS.on hB) hvB hP2 HPF.out).mono ?_
    rintro e W ⟨rfl, hb⟩
    clear c0 c1 c2 c3 c4 c5
    replace hk := hk.below hb hk.lt
    replace hP2 := hP2.on hb
    replace hB := hB.trans (hb.mono hB.size)
    clear hb
    have c0 := hk.cell_ 0 rfl
    have c1 := hk.cell_ 1 rfl
    have c2 := hk.cell_ 2 rfl
    have c3 := hk.cell_ 3 rfl
    have c4 := hk.cell_ 4 rfl
    have c5 := hk.cell_ 5 rfl
    rw [HPJ.out]
    go_wp2_with fail
    refine (first_any _).mono ?_
    rintro e W ⟨rfl, hb⟩
    clear c0 c1 c2 c3 c4 c5
    replace hk := hk.below hb hk.lt
    replace hP2 := hP2.on hb
    replace hB := hB.trans (hb.mono hB.size)
    clear hb
    have c0 := hk.cell_ 0 rfl
    have c1 := hk.cell_ 1 rfl
    have c2 := hk.cell_ 2 rfl
    have c3 := hk.cell_ 3 rfl
    have c4 := hk.cell_ 4 rfl
    have c5 := hk.cell_ 5 rfl
    go_wp2_with fail
    go_ret
    exact ⟨rfl, hB⟩
  · have hzb : ((judgeF s.p pl).2.2 != 0) = true := by simpa using hz
    have HZ := hide hz
    clear hz
    go_wp2_with fail
    refine (first_any _).mono ?_
    rintro e W ⟨rfl, hb⟩
    clear c0 c1 c2 c3 c4 c5
    replace hk := hk.below hb hk.lt
    replace hP1 := hP1.on hb
    replace hB := hB.trans (hb.mono hB.size)
    clear hb
    have c0 := hk.cell_ 0 rfl
    have c1 := hk.cell_ 1 rfl
    have c2 := hk.cell_ 2 rfl
    have c3 := hk.cell_ 3 rfl
    have c4 := hk.cell_ 4 rfl
    have c5 := hk.cell_ 5 rfl
    go_wp2_with fail
    go_ret
    exact ⟨rfl, hB⟩
end Go.Proofs.Ytcpnfcnobnjhdaa

/- Pull of Pull is Pull, and the order of each machine stays: the plain law. -/
namespace Go.Proofs.Ytcpnfcnobnjhdaa
open Go Go.Sort Go.RowKit StabAt
section
variable {p : Shop} {R : List At}
/-- a plan that holds the starts of R answers with them -/
theorem refT_self (hv : VShop p) (hq : SeqOk p R) (hp : Placed p R) {O : List (List Int)} (he : ∀ c ∈ R, planAt O c.j c.k = c.t) {m : Int} {n : Nat} {b : At} (hn : (R.filter (onB m))[n]? = some b) : refT p O (R.filter (onB m)) n b = b.t := by
  obtain ⟨i, hb, hf, ht⟩ := filter_from hn
  have hm : b.x.m = m := by simpa [onB] using hf
  have hr : rdyO p O b = rdyR (R.take i) b.j := by
    unfold rdyO rdyR
    rcases hq.prev hb with ⟨g1, g2⟩ | ⟨k, g1, i', c, g2, g3, g4, g5, g6⟩
    · rw [g1, g2]
    · rw [g1, g6]
      simp only
      have hcm := List.mem_of_getElem? g3
      obtain ⟨s, q1, q2⟩ := hq.ok c hcm
      have g7 := he c hcm
      rw [g4] at q1 g7
      rw [g5] at q2 g7
      rw [stepAt_eq q1 q2, g7]
      rfl
  have hl : lastP (onB b.x.m) (R.take i) = prevI (R.filter (onB m)) n := by rw [hm]; exact lastP_prev ht hn
  have hpf : prevO p O (R.filter (onB m)) n b = fromR p (R.take i) b := by
    unfold prevO fromR
    rw [hl]
    cases n with
    | zero => exact hr
    | succ k =>
      simp only [prevI]
      cases hc : (R.filter (onB m))[k]? with
      | none => exact hr
      | some c =>
        simp only
        have hcm := (List.mem_filter.1 (List.mem_of_getElem? hc)).1
        rw [hr, show atO O c = c by unfold atO; rw [he c hcm]]
  unfold refT
  rw [hpf]
  exact (hp i b hb).1.symm
theorem SeqOk.nodup (hq : SeqOk p R) : R.Nodup := hq.asc.imp fun {a b} h he => by subst he; have := h rfl; omega
theorem planR_perm (hq : SeqOk p R) : (ats p (planR p R)).Perm R := by
  refine (List.perm_ext_iff_of_nodup (ats_seq p _).nodup hq.nodup).2 fun a => ⟨fun h => hq.of_at h, fun h => ?_⟩
  obtain ⟨s, h1, h2⟩ := hq.ok a h
  have h3 := ats_has (pl := planR p R) h1 h2
  rw [planR_eq hq h] at h3
  exact h3
theorem strict_room (hv : VShop p) {a b : At} {c : Int} (hm : 1 ≤ a.x.mi) (h : roomF p a c ≤ b.t) : a.t < b.t := by
  have := setupOf_ge hv a.x.m
  unfold roomF At.end_ at h
  split at h <;> omega
/-- the steps of a machine stand in the order in which they were put -/
theorem mach_order (hv : VShop p) (hq : SeqOk p R) (hp : Placed p R) (m : Int) : (sortA (ats p (planR p R))).filter (onB m) = R.filter (onB m) := by
  have hr := placed_right hv hq hp
  have hl := line_of hv hr
  refine List.Perm.eq_of_pairwise (le := fun a b => a.t < b.t) (fun a b _ _ h1 h2 => by omega) ?_ ?_ (((sortA_perm _).trans (planR_perm hq)).filter _)
  · rw [List.pairwise_iff_getElem]
    intro i j hi hj hij
    have hA := List.getElem?_eq_getElem hi
    have hB := List.getElem?_eq_getElem hj
    obtain ⟨u, hu, hfu, htu⟩ := filter_from hA
    obtain ⟨v, hv', hfv, htv⟩ := filter_from hB
    have huv : u < v := by
      rcases Nat.lt_trichotomy u v with h | h | h
      · exact h
      · subst h
        rw [htu] at htv
        have h1 := congrArg List.length htv
        rw [List.length_take, List.length_take] at h1
        omega
      · have h1 := congrArg List.length htu
        have h2 := congrArg List.length htv
        have h3 : ((List.take v (sortA (ats p (planR p R)))).filter (onB m)).length ≤ ((List.take u (sortA (ats p (planR p R)))).filter (onB m)).length := by
          have : List.take u (sortA (ats p (planR p R))) = List.take v (sortA (ats p (planR p R))) ++ ((sortA (ats p (planR p R))).drop v).take (u - v) := by
            rw [← List.take_add, show v + (u - v) = u by omega]
          rw [this, List.filter_append, List.length_append]; omega
        rw [List.length_take] at h1 h2
        omega
    have h1 := pair_get hl.tog huv hu hv'
    have h2 := pair_get hl.asc huv hu hv'
    have ha := hl.seq.step hv (List.mem_of_getElem? hu)
    have hb := hl.seq.step hv (List.mem_of_getElem? hv')
    generalize ((sortA (ats p (planR p R))).filter (onB m))[i] = a at *
    generalize ((sortA (ats p (planR p R))).filter (onB m))[j] = b at *
    have e1 : a.x.m = m := by simpa [onB] using hfu
    have e2 : b.x.m = m := by simpa [onB] using hfv
    unfold togB at h1
    simp only [Bool.or_eq_true, Bool.not_eq_true', decide_eq_false_iff_not, decide_eq_true_eq] at h1
    rcases h1 with (h1 | h1) | h1
    · exact absurd (e1.trans e2.symm) h1
    · exact strict_room hv ha.2.2.1 h1
    · have := strict_room hv hb.2.2.1 h1; omega
  · rw [List.pairwise_iff_getElem]
    intro i j hi hj hij
    have hA := List.getElem?_eq_getElem hi
    have hB := List.getElem?_eq_getElem hj
    obtain ⟨u, hu, hfu, htu⟩ := filter_from hA
    obtain ⟨v, hv', hfv, htv⟩ := filter_from hB
    have huv : u < v := by
      rcases Nat.lt_trichotomy u v with h | h | h
      · exact h
      · subst h
        rw [htu] at htv
        have h1 := congrArg List.length htv
        rw [List.length_take, List.length_take] at h1
        omega
      · have h1 := congrArg List.length htu
        have h2 := congrArg List.length htv
        have h3 : ((List.take v R).filter (onB m)).length ≤ ((List.take u R).filter (onB m)).length := by
          have : List.take u R = List.take v R ++ (R.drop v).take (u - v) := by
            rw [← List.take_add, show v + (u - v) = u by omega]
          rw [this, List.filter_append, List.length_append]; omega
        rw [List.length_take] at h1 h2
        omega
    have ha := hq.step hv (List.mem_of_getElem? hu)
    generalize (R.filter (onB m))[i] = a at *
    generalize (R.filter (onB m))[j] = b at *
    have e1 : a.x.m = m := by simpa [onB] using hfu
    have e2 : b.x.m = m := by simpa [onB] using hfv
    exact strict_room hv ha.2.2.1 (room_chain hv hq hp v u a b huv hu hv' (e1.trans e2.symm))
end
/-- Pull of Pull is Pull -/
theorem pull_pull {p : Shop} (hv : VShop p) {pl : List (List Int)} (hz : (judgeF p pl).2.2 = 0) : pullF p (pullF p pl) = pullF p pl := by
  have hl := line_of hv (right_of hz)
  have hq := (pull_alike p _).seq hl.seq
  have hp := pull_placed hv hl
  have hz2 := pull_judge hv hz
  have hl2 := line_of hv (right_of hz2)
  have ha2 := pull_alike p (sortA (ats p (pullF p pl)))
  have hq2 := ha2.seq hl2.seq
  have hp2 := pull_placed hv hl2
  show planR p (pullL p [] (sortA (ats p (pullF p pl)))) = planR p (pullL p [] (sortA (ats p pl)))
  have hmo : ∀ m, (sortA (ats p (pullF p pl))).filter (onB m) = (pullL p [] (sortA (ats p pl))).filter (onB m) := mach_order hv hq hp
  have hval : ∀ b ∈ pullL p [] (sortA (ats p pl)), planAt (pullF p pl) b.j b.k = b.t := fun b hb => planR_eq hq hb
  have hle2 : ∀ b ∈ pullL p [] (sortA (ats p pl)), planAt (planR p (pullL p [] (sortA (ats p (pullF p pl))))) b.j b.k ≤ b.t := fun b hb => by
    obtain ⟨s, h1, h2⟩ := hq.ok b hb
    have := pull_at hv hz2 h1 h2
    rw [hval b hb] at this
    exact this
  generalize pullL p [] (sortA (ats p pl)) = R at *
  generalize hR2 : pullL p [] (sortA (ats p (pullF p pl))) = R2 at *
  have h0 : ∀ b ∈ R2, 0 ≤ b.t := fun b hb => by
    obtain ⟨i, hi⟩ := List.getElem?_of_mem hb
    exact (hp2 i b hi).2.1
  have hok : OutOk p R (planR p R2) := by
    refine ⟨planR_len p R2, fun j s l hj hl' => ?_, fun b hb => ⟨?_, hle2 b hb⟩⟩
    · rw [planR_row hj] at hl'
      injection hl' with hl'
      rw [← hl']; simp
    · obtain ⟨s, h1, h2⟩ := hq.ok b hb
      obtain ⟨b2, hb2, e1, e2⟩ := hq2.all b.j b.k s b.x h1 h2
      have h3 := planR_eq hq2 hb2
      rw [e1, e2] at h3
      rw [h3]
      exact h0 b2 hb2
  refine hok.eq hv hq (refT_done hv hq hp hok fun m _ n b hn => ?_)
  -- the same order on the machine in R2
  have hk : (R2.filter (onB (m : Int))).map key = (R.filter (onB (m : Int))).map key := by
    rw [← filter_keys (m := (m : Int)) ha2.keys, hmo]
  obtain ⟨b2, hb2, e1, e2, e3⟩ := keys_get hk.symm hn
  have h1 := refT_self hv hq2 hp2 (O := planR p R2) (fun c hc => planR_eq hq2 hc) hb2
  have h2 := refT_key (O := planR p R2) (p := p) hk.symm e1 e2 e3 n
  have h3 := planR_eq hq2 (List.mem_filter.1 (List.mem_of_getElem? hb2)).1
  rw [e1, e2] at h3
  rw [h2, h1, h3]
  exact Int.le_refl _
theorem map_pairs {l R : List At} (h : l.map key = R.map key) : l.map (fun a => (a.j, a.k)) = R.map fun a => (a.j, a.k) := by
  have := congrArg (List.map fun q : Nat × Nat × Step => (q.1, q.2.1)) h
  simpa [List.map_map, Function.comp_def, key] using this
/-- the order on a machine, before and after -/
theorem order_same {p : Shop} (hv : VShop p) {pl : List (List Int)} (hz : (judgeF p pl).2.2 = 0) (m : Int) : (sortA (onM (ats p (pullF p pl)) m)).map key = (sortA (onM (ats p pl) m)).map key := by
  have hl := line_of hv (right_of hz)
  have hq := (pull_alike p _).seq hl.seq
  have hp := pull_placed hv hl
  have h1 := mach_order hv hq hp m
  have h2 := filter_keys (m := m) (pull_alike p (sortA (ats p pl))).keys
  have e1 : ∀ l : List At, sortA (onM l m) = (sortA l).filter (onB m) := fun l => (sortA_filter _ _).symm
  rw [e1, e1]
  rw [h2]
  exact congrArg (List.map key) h1
end Go.Proofs.Ytcpnfcnobnjhdaa

/- The law ShopEarlier: the walk. -/
namespace Go.Proofs.Ytcpnfcnobnjhdaa
open Go.RowKit
theorem slc_keys {w : World} {B : Nat} {A : Option Addr} {l R : List At} (hs : Slc AP 2 w B A l) (h : l.map key = R.map key) : Slc AP 2 w B A R := fun i b hb => by
  obtain ⟨a, ha, e1, e2, _⟩ := keys_get h.symm hb
  have : AP b = AP a := by unfold AP; rw [e1, e2]
  rw [this]
  exact hs i a ha
theorem v3' (p : Shop) (pl : List (List Int)) : V3 (judgeF p pl) = .tuple #[.int .i64 (judgeF p pl).1, .int .i64 (judgeF p pl).2.1, .int .i64 (judgeF p pl).2.2] := rfl
theorem apiOrder_n (s : Sh) (A : Option Addr) (c n : Nat) (pl : List (List Int)) (mc : Int) (w : World) (hn : pl.length = n) (hS : ShAt w w.heap.size s) (hvB : validShop s.p = true) (hP : Plan w w.heap.size A pl) (hf : PFits pl) :
    Calls Try.prog 40 #[.agg #[.int .i64 s.p.op, .int .i64 s.p.cl, .slice s.aH s.p.hol.length s.cH, .int .i64 s.p.mach, .slice s.aS s.p.setup.length s.cS, .slice s.aJ s.p.jobs.length s.cJ], .slice A n c, .int .i64 mc] w fun e w' => ∃ A' c', e = .returned (.tuple #[.slice A' (ordL s.p pl mc).length c', .int .i64 (ordE s.p pl mc)]) ∧ Below w.heap.size w w' ∧ Slc AP 2 w' w'.heap.size A' (ordL s.p pl mc) := by
  subst hn; exact apiOrder_any s A c pl mc w hS hvB hP hf
set_option maxRecDepth 200000 in
set_option maxHeartbeats 4000000 in
theorem earlier_walk (s : Sh) (A : Option Addr) (c : Nat) (pl : List (List Int)) (w : World) (hS : ShAt w w.heap.size s) (hf : Fits s.p) (hP : Plan w w.heap.size A pl) (hpf : PFits pl) :
    Calls Try.prog 13 #[.agg #[.int .i64 s.p.op, .int .i64 s.p.cl, .slice s.aH s.p.hol.length s.cH, .int .i64 s.p.mach, .slice s.aS s.p.setup.length s.cS, .slice s.aJ s.p.jobs.length s.cJ], .slice A pl.length c] w fun e w' => e = .returned (.bool true) ∧ Below w.heap.size w w' := by
  have hk := Blk.new w 25 #[.int .i64 s.p.op, .int .i64 s.p.cl, .slice s.aH s.p.hol.length s.cH, .int .i64 s.p.mach, .slice s.aS s.p.setup.length s.cS, .slice s.aJ s.p.jobs.length s.cJ]
  have hB := (Below.refl w.heap.size w).alloc (Nat.le_refl _) (.cells #[.int .i64 s.p.op, .int .i64 s.p.cl, .slice s.aH s.p.hol.length s.cH, .int .i64 s.p.mach, .slice s.aS s.p.setup.length s.cS, .slice s.aJ s.p.jobs.length s.cJ] 25)
  go_enter Try.func13, Try.ntmps13
  go_wp2_with fail
  generalize w.alloc (.cells #[.int .i64 s.p.op, .int .i64 s.p.cl, .slice s.aH s.p.hol.length s.cH, .int .i64 s.p.mach, .slice s.aS s.p.setup.length s.cS, .slice s.aJ s.p.jobs.length s.cJ] 25) = W at *
  have c0 := hk.cell_ 0 rfl
  have c1 := hk.cell_ 1 rfl
  have c2 := hk.cell_ 2 rfl
  have c3 := hk.cell_ 3 rfl
  have c4 := hk.cell_ 4 rfl
  have c5 := hk.cell_ 5 rfl
  go_wp2_with fail
  refine (long_any s _ (hS.on hB) hf.h1 hf.h2 hf.h3 hf.h4).mono ?_
  rintro e W ⟨rfl, hb⟩
  clear c0 c1 c2 c3 c4 c5
  replace hk := hk.below hb hk.lt
  replace hB := hB.trans (hb.mono hB.size)
  clear hb
  have c0 := hk.cell_ 0 rfl
  have c1 := hk.cell_ 1 rfl
  have c2 := hk.cell_ 2 rfl
  have c3 := hk.cell_ 3 rfl
  have c4 := hk.cell_ 4 rfl
  have c5 := hk.cell_ 5 rfl
  cases hl : longB s.p
  case true =>
    go_wp2_with fail
    refine (first_any _).mono ?_
    rintro e W ⟨rfl, hb⟩
    clear c0 c1 c2 c3 c4 c5
    replace hk := hk.below hb hk.lt
    replace hB := hB.trans (hb.mono hB.size)
    clear hb
    have c0 := hk.cell_ 0 rfl
    have c1 := hk.cell_ 1 rfl
    have c2 := hk.cell_ 2 rfl
    have c3 := hk.cell_ 3 rfl
    have c4 := hk.cell_ 4 rfl
    have c5 := hk.cell_ 5 rfl
    go_wp2_with fail
    go_ret
    exact ⟨rfl, hB⟩
  go_wp2_with fail
  refine (wide_any A c pl _ (hP.on hB) hpf).mono ?_
  rintro e W ⟨rfl, hb⟩
  clear c0 c1 c2 c3 c4 c5
  replace hk := hk.below hb hk.lt
  replace hB := hB.trans (hb.mono hB.size)
  clear hb
  have c0 := hk.cell_ 0 rfl
  have c1 := hk.cell_ 1 rfl
  have c2 := hk.cell_ 2 rfl
  have c3 := hk.cell_ 3 rfl
  have c4 := hk.cell_ 4 rfl
  have c5 := hk.cell_ 5 rfl
  cases hw : wideB pl
  case true =>
    go_wp2_with fail
    refine (first_any _).mono ?_
    rintro e W ⟨rfl, hb⟩
    clear c0 c1 c2 c3 c4 c5
    replace hk := hk.below hb hk.lt
    replace hB := hB.trans (hb.mono hB.size)
    clear hb
    have c0 := hk.cell_ 0 rfl
    have c1 := hk.cell_ 1 rfl
    have c2 := hk.cell_ 2 rfl
    have c3 := hk.cell_ 3 rfl
    have c4 := hk.cell_ 4 rfl
    have c5 := hk.cell_ 5 rfl
    go_wp2_with fail
    go_ret
    exact ⟨rfl, hB⟩
  go_wp2_with fail
  refine (refValid_any s _ (hS.on hB) hf.h1 hf.h2 hf.h3 hf.h4).mono ?_
  rintro e W ⟨rfl, hb⟩
  clear c0 c1 c2 c3 c4 c5
  replace hk := hk.below hb hk.lt
  replace hB := hB.trans (hb.mono hB.size)
  clear hb
  have c0 := hk.cell_ 0 rfl
  have c1 := hk.cell_ 1 rfl
  have c2 := hk.cell_ 2 rfl
  have c3 := hk.cell_ 3 rfl
  have c4 := hk.cell_ 4 rfl
  have c5 := hk.cell_ 5 rfl
  cases hvB : validShop s.p
  case false =>
    go_wp2_with fail
    refine (first_any _).mono ?_
    rintro e W ⟨rfl, hb⟩
    clear c0 c1 c2 c3 c4 c5
    replace hk := hk.below hb hk.lt
    replace hB := hB.trans (hb.mono hB.size)
    clear hb
    have c0 := hk.cell_ 0 rfl
    have c1 := hk.cell_ 1 rfl
    have c2 := hk.cell_ 2 rfl
    have c3 := hk.cell_ 3 rfl
    have c4 := hk.cell_ 4 rfl
    have c5 := hk.cell_ 5 rfl
    go_wp2_with fail
    go_ret
    exact ⟨rfl, hB⟩
  have hv := valid_facts hvB
  have HV3 := hide (v3' s.p)
  have hm1 := hv.mach1
  have hm6 := hv.mach6
  go_wp2_with fail
  refine (refJudge_any s A c pl _ (hS.on hB) hv (hP.on hB) hpf).mono ?_
  rintro e W ⟨rfl, hb⟩
  clear c0 c1 c2 c3 c4 c5
  replace hk := hk.below hb hk.lt
  replace hB := hB.trans (hb.mono hB.size)
  clear hb
  have c0 := hk.cell_ 0 rfl
  have c1 := hk.cell_ 1 rfl
  have c2 := hk.cell_ 2 rfl
  have c3 := hk.cell_ 3 rfl
  have c4 := hk.cell_ 4 rfl
  have c5 := hk.cell_ 5 rfl
  rw [HV3.out]
  by_cases hz : (judgeF s.p pl).2.2 = 0
  · have hsh := shaped_facts (judge_shaped hz)
    have HSH := hide hsh
    have hlen12 : pl.length ≤ 12 := by have := hsh.len; have := hv.jobn; omega
    have HPJ := hide (pull_judge hv hz)
    have HPS := hide (pull_right hv hz).shape
    have HPF := hide (fits_of hv HPS.out)
    have HPV := hide (show pullV s.p pl = pullF s.p pl by unfold pullV; rw [if_pos hz])
    have HPV2 := hide (show pullV s.p (pullF s.p pl) = pullF s.p pl by unfold pullV; rw [if_pos HPJ.out]; exact pull_pull hv hz)
    have HAT := hide (fun (j k : Nat) (st : List Step) (x : Step) (h1 : s.p.jobs[j]? = some st) (h2 : st[k]? = some x) => pull_at hv hz h1 h2)
    have HOS := hide (fun m => order_same hv hz m)
    have HLQ : Hid ((pullF s.p pl).length = pl.length) := by show _ = _; rw [HPS.out.len, hsh.len]
    have HZ := hide hz
    rw [HZ.out]
    clear hz hsh
    go_wp2_with fail
    refine (pull_any s A c pl _ (hS.on hB) hvB (hP.on hB) hpf).mono ?_
    rintro e W9 ⟨A1, k1, rfl, hb, hP1⟩
    obtain ⟨W, rfl⟩ : ∃ W : World, W = W9 := ⟨_, rfl⟩
    clear c0 c1 c2 c3 c4 c5
    replace hk := hk.below hb hk.lt
    replace hB := hB.trans (hb.mono hB.size)
    clear hb
    have c0 := hk.cell_ 0 rfl
    have c1 := hk.cell_ 1 rfl
    have c2 := hk.cell_ 2 rfl
    have c3 := hk.cell_ 3 rfl
    have c4 := hk.cell_ 4 rfl
    have c5 := hk.cell_ 5 rfl
    rw [HPV.out, HZ.out]
    rw [HPV.out] at hP1
    generalize pullF s.p pl = Q at *
    go_wp2_with fail
    refine (pull_any s A1 k1 Q _ (hS.on hB) hvB hP1 HPF.out).mono ?_
    rintro e W9 ⟨A2, k2, rfl, hb, hP2⟩
    obtain ⟨W, rfl⟩ : ∃ W : World, W = W9 := ⟨_, rfl⟩
    clear c0 c1 c2 c3 c4 c5
    replace hk := hk.below hb hk.lt
    replace hP1 := hP1.on hb
    replace hB := hB.trans (hb.mono hB.size)
    clear hb
    have c0 := hk.cell_ 0 rfl
    have c1 := hk.cell_ 1 rfl
    have c2 := hk.cell_ 2 rfl
    have c3 := hk.cell_ 3 rfl
    have c4 := hk.cell_ 4 rfl
    have c5 := hk.cell_ 5 rfl
    rw [HPV2.out, HPJ.out]
    rw [HPV2.out] at hP2
    go_wp2_with fail
    refine (samePlan_any A1 A2 k1 k2 Q _ hP1 hP2 HPF.out).mono ?_
    rintro e W ⟨rfl, hb⟩
    clear c0 c1 c2 c3 c4 c5
    replace hk := hk.below hb hk.lt
    replace hP1 := hP1.on hb
    replace hP2 := hP2.on hb
    replace hB := hB.trans (hb.mono hB.size)
    clear hb
    have c0 := hk.cell_ 0 rfl
    have c1 := hk.cell_ 1 rfl
    have c2 := hk.cell_ 2 rfl
    have c3 := hk.cell_ 3 rfl
    have c4 := hk.cell_ 4 rfl
    have c5 := hk.cell_ 5 rfl
    rw [HLQ.out]
    clear hP2
    go_wp2_with fail
    clear c0 c1 c2 c3 c4 c5
    go_loopw [12] (fun x W => ∃ i : Nat, x = .int .i64 i ∧ i ≤ pl.length ∧ Blk W w.heap.size 25 #[.int .i64 s.p.op, .int .i64 s.p.cl, .slice s.aH s.p.hol.length s.cH, .int .i64 s.p.mach, .slice s.aS s.p.setup.length s.cS, .slice s.aJ s.p.jobs.length s.cJ] ∧ Plan W W.heap.size A1 Q ∧ Below w.heap.size w W) (fun x _ => pl.length - (intOf x).toNat)
    case atStart => exact ⟨0, rfl, Nat.zero_le _, hk, hP1, hB⟩
    case round =>
      clear hk hB hP1
      obtain ⟨W, rfl⟩ : ∃ W : World, W = wr := ⟨_, rfl⟩
      obtain ⟨i, rfl, hi, hk, hP1, hB⟩ := hrel
      have c0 := hk.cell_ 0 rfl
      have c1 := hk.cell_ 1 rfl
      have c2 := hk.cell_ 2 rfl
      have c3 := hk.cell_ 3 rfl
      have c4 := hk.cell_ 4 rfl
      have c5 := hk.cell_ 5 rfl
      by_cases hlt : i < pl.length
      · obtain ⟨l, hl⟩ : ∃ l, pl[i]? = some l := ⟨_, List.getElem?_eq_getElem hlt⟩
        obtain ⟨l1, hl1⟩ : ∃ l1, Q[i]? = some l1 := ⟨_, List.getElem?_eq_getElem (by rw [HLQ.out]; exact hlt)⟩
        have hst : s.p.jobs[i]? = some (s.p.jobs[i]'(by rw [← HSH.out.len]; exact hlt)) := List.getElem?_eq_getElem _
        obtain ⟨st, hst'⟩ : ∃ st, s.p.jobs[i]? = some st := ⟨_, hst⟩
        obtain ⟨g1, g2⟩ := HSH.out.at_ i l st hl hst'
        obtain ⟨g3, g4⟩ := HPS.out.at_ i l1 st hl1 hst'
        have hll : l1.length = l.length := by omega
        have hl8 : l.length ≤ 8 := by have := (hv.steps i st hst').1; omega
        have HLE := hide (fun (k : Nat) (a b : Int) (ha : l1[k]? = some a) (hb : l[k]? = some b) => show a ≤ b by
          have hk : k < st.length := by rw [← g1]; exact (List.getElem?_eq_some_iff.1 hb).1
          have h := HAT.out i k st _ hst' (List.getElem?_eq_getElem hk)
          rw [planAt_eq hl1 ha, planAt_eq hl hb] at h
          exact h)
        obtain ⟨bp, offp, Ap, cp, hAp, hbp, hcp, hSp⟩ := plan_at (hP.on hB) hl
        obtain ⟨bq, offq, Aq, cq, hAq, hbq, hcq, hSq⟩ := plan_at hP1 hl1
        rw [hll] at hcq
        have HLL := hide hll
        have HL := hide (And.intro hl hl1)
        clear hl hl1 hst hst' g1 g2 g3 g4 hll
        subst hAp hAq
        have hii : (i : Int) < (pl.length : Int) := by omega
        go_wp2_with fail
        refine wp_region_quiet (C := fun w' => ∃ u : Since W, w' = u.w) (by kernel_rfl) (by kernel_rfl) (Since.start W) ?_
        dsimp only
        have y_c0 := Since.cell c0
        have y_c1 := Since.cell c1
        have y_c2 := Since.cell c2
        have y_c3 := Since.cell c3
        have y_c4 := Since.cell c4
        have y_c5 := Since.cell c5
        have y_hcp := Since.cell hcp
        have y_hcq := Since.cell hcq
        clear c0 c1 c2 c3 c4 c5
        repeat (go_big_quiet_step ((fail)))
        refine wpQuiet_nil ?_
        rintro W ⟨⟨_, hb⟩, rfl⟩
        try dsimp only at hb ⊢
        replace hcp : W.cell? _ = _ := y_hcp ⟨W, hb⟩
        replace hcq : W.cell? _ = _ := y_hcq ⟨W, hb⟩
        clear y_c0 y_c1 y_c2 y_c3 y_c4 y_c5 y_hcp y_hcq
        replace hk := hk.below hb hk.lt
        replace hSp := (hSp.below hb).more hb.size
        replace hSq := (hSq.below hb).more hb.size
        replace hP1 := hP1.on hb
        replace hB := hB.trans (hb.mono hB.size)
        clear hb
        have c0 := hk.cell_ 0 rfl
        have c1 := hk.cell_ 1 rfl
        have c2 := hk.cell_ 2 rfl
        have c3 := hk.cell_ 3 rfl
        have c4 := hk.cell_ 4 rfl
        have c5 := hk.cell_ 5 rfl
        clear hcp hcq
        go_wp2_with fail
        clear c0 c1 c2 c3 c4 c5
        go_loopw [13] (fun y W => ∃ k : Nat, y = .int .i64 k ∧ k ≤ l.length ∧ Blk W w.heap.size 25 #[.int .i64 s.p.op, .int .i64 s.p.cl, .slice s.aH s.p.hol.length s.cH, .int .i64 s.p.mach, .slice s.aS s.p.setup.length s.cS, .slice s.aJ s.p.jobs.length s.cJ] ∧ Slc intEnc 1 W W.heap.size Ap l ∧ Slc intEnc 1 W W.heap.size Aq l1 ∧ Plan W W.heap.size (some ⟨bq, offq, none⟩) Q ∧ Below w.heap.size w W) (fun y _ => l.length - (intOf y).toNat)
        case atStart => exact ⟨0, rfl, Nat.zero_le _, hk, hSp, hSq, hP1, hB⟩
        case round =>
          clear hk hB hP1 hSp hSq
          obtain ⟨W, rfl⟩ : ∃ W : World, W = wr := ⟨_, rfl⟩
          obtain ⟨k, rfl, hk2, hk, hSp, hSq, hP1, hB⟩ := hrel
          obtain ⟨bp', offp', Ap', cp', hAp', hbp', hcp, hSp'⟩ := plan_at (hP.on hB) HL.out.1
          obtain ⟨bq', offq', Aq', cq', hAq', hbq', hcq, hSq'⟩ := plan_at hP1 HL.out.2
          obtain ⟨rfl, rfl⟩ : bp = bp' ∧ offp = offp' := by simpa using hAp'
          obtain ⟨rfl, rfl⟩ : bq = bq' ∧ offq = offq' := by simpa using hAq'
          rw [HLL.out] at hcq
          clear hAp' hAq'
          have c0 := hk.cell_ 0 rfl
          have c1 := hk.cell_ 1 rfl
          have c2 := hk.cell_ 2 rfl
          have c3 := hk.cell_ 3 rfl
          have c4 := hk.cell_ 4 rfl
          have c5 := hk.cell_ 5 rfl
          by_cases hlk : k < l.length
          · obtain ⟨a, ha⟩ : ∃ a, l1[k]? = some a := ⟨_, List.getElem?_eq_getElem (by rw [HLL.out]; exact hlk)⟩
            obtain ⟨b, hb⟩ : ∃ b, l[k]? = some b := ⟨_, List.getElem?_eq_getElem hlk⟩
            have hle := HLE.out k a b ha hb
            obtain ⟨bu, offu, hAu, hbu, hcu⟩ := int_at hSp' hb
            obtain ⟨bv, offv, hAv, hbv, hcv⟩ := int_at hSq' ha
            have hki : (k : Int) < (l.length : Int) := by omega
            clear ha hb hSp' hSq'
            subst hAu hAv
            go_wp2_with fail
            go_wp2_with fail
            refine wp_region_quiet (C := fun w' => ∃ u : Since W, w' = u.w) (by kernel_rfl) (by kernel_rfl) (Since.start W) ?_
            dsimp only
            have y_c0 := Since.cell c0
            have y_c1 := Since.cell c1
            have y_c2 := Since.cell c2
            have y_c3 := Since.cell c3
            have y_c4 := Since.cell c4
            have y_c5 := Since.cell c5
            have y_hcp := Since.cell hcp
            have y_hcq := Since.cell hcq
            have y_hcu := Since.cell hcu
            have y_hcv := Since.cell hcv
            clear c0 c1 c2 c3 c4 c5
            repeat (go_big_quiet_step ((fail)))
            refine wpQuiet_nil ?_
            rintro W ⟨⟨_, hb⟩, rfl⟩
            try dsimp only at hb ⊢
            replace hcp : W.cell? _ = _ := y_hcp ⟨W, hb⟩
            replace hcq : W.cell? _ = _ := y_hcq ⟨W, hb⟩
            replace hcu : W.cell? _ = _ := y_hcu ⟨W, hb⟩
            replace hcv : W.cell? _ = _ := y_hcv ⟨W, hb⟩
            clear y_c0 y_c1 y_c2 y_c3 y_c4 y_c5 y_hcp y_hcq y_hcu y_hcv
            replace hk := hk.below hb hk.lt
            replace hSp := (hSp.below hb).more hb.size
            replace hSq := (hSq.below hb).more hb.size
            replace hP1 := hP1.on hb
            replace hB := hB.trans (hb.mono hB.size)
            clear hb
            have c0 := hk.cell_ 0 rfl
            have c1 := hk.cell_ 1 rfl
            have c2 := hk.cell_ 2 rfl
            have c3 := hk.cell_ 3 rfl
            have c4 := hk.cell_ 4 rfl
            have c5 := hk.cell_ 5 rfl
            go_wp2_with fail
            go_roundw
            case rel => exact ⟨k + 1, by go_num, by omega, hk, hSp, hSq, hP1, hB⟩
            case measure => simp [intOf]; omega
          · obtain rfl : k = l.length := by omega
            go_wp2_with fail
            go_roundw
            case rel => exact ⟨i + 1, by go_num, by omega, hk, hP1, hB⟩
            case measure => simp [intOf]; omega
      · obtain rfl : i = pl.length := by omega
        go_wp2_with fail
        clear c0 c1 c2 c3 c4 c5
        go_loopw [14] (fun y W => ∃ m : Nat, y = .int .i64 m ∧ (m : Int) ≤ s.p.mach ∧ Blk W w.heap.size 25 #[.int .i64 s.p.op, .int .i64 s.p.cl, .slice s.aH s.p.hol.length s.cH, .int .i64 s.p.mach, .slice s.aS s.p.setup.length s.cS, .slice s.aJ s.p.jobs.length s.cJ] ∧ Plan W W.heap.size A1 Q ∧ Below w.heap.size w W) (fun y _ => s.p.mach.toNat - (intOf y).toNat)
        case atStart => exact ⟨0, rfl, (by omega), hk, hP1, hB⟩
        case round =>
          clear hk hB hP1
          obtain ⟨W, rfl⟩ : ∃ W : World, W = wr := ⟨_, rfl⟩
          obtain ⟨m, rfl, hm, hk, hP1, hB⟩ := hrel
          have c0 := hk.cell_ 0 rfl
          have c1 := hk.cell_ 1 rfl
          have c2 := hk.cell_ 2 rfl
          have c3 := hk.cell_ 3 rfl
          have c4 := hk.cell_ 4 rfl
          have c5 := hk.cell_ 5 rfl
          by_cases hlt2 : (m : Int) < s.p.mach
          · obtain ⟨q1, q2⟩ := ordL_yes (pl := pl) (m := (m : Int)) (by omega) hlt2 HZ.out
            obtain ⟨q3, q4⟩ := ordL_yes (pl := Q) (m := (m : Int)) (by omega) hlt2 HPJ.out
            have HQ1 := hide (And.intro (And.intro q1 q2) (And.intro q3 q4))
            clear q1 q2 q3 q4
            go_wp2_with fail
            refine (apiOrder_any s A c pl m _ (hS.on hB) hvB (hP.on hB) hpf).mono ?_
            rintro e W9 ⟨AO, cO, rfl, hb, hO⟩
            rw [HQ1.out.1.1, HQ1.out.1.2]
            rw [HQ1.out.1.1] at hO
            obtain ⟨W, rfl⟩ : ∃ W : World, W = W9 := ⟨_, rfl⟩
            clear c0 c1 c2 c3 c4 c5
            replace hk := hk.below hb hk.lt
            replace hP1 := hP1.on hb
            replace hB := hB.trans (hb.mono hB.size)
            clear hb
            have c0 := hk.cell_ 0 rfl
            have c1 := hk.cell_ 1 rfl
            have c2 := hk.cell_ 2 rfl
            have c3 := hk.cell_ 3 rfl
            have c4 := hk.cell_ 4 rfl
            have c5 := hk.cell_ 5 rfl
            go_wp2_with fail
            refine (apiOrder_n s A1 k1 pl.length Q m _ HLQ.out (hS.on hB) hvB hP1 HPF.out).mono ?_
            rintro e W9 ⟨AR, cR, rfl, hb, hR⟩
            rw [HQ1.out.2.1, HQ1.out.2.2]
            rw [HQ1.out.2.1] at hR
            obtain ⟨W, rfl⟩ : ∃ W : World, W = W9 := ⟨_, rfl⟩
            clear c0 c1 c2 c3 c4 c5
            replace hk := hk.below hb hk.lt
            replace hP1 := hP1.on hb
            replace hO := hO.on hb
            replace hB := hB.trans (hb.mono hB.size)
            clear hb
            have c0 := hk.cell_ 0 rfl
            have c1 := hk.cell_ 1 rfl
            have c2 := hk.cell_ 2 rfl
            have c3 := hk.cell_ 3 rfl
            have c4 := hk.cell_ 4 rfl
            have c5 := hk.cell_ 5 rfl
            have hR2 := slc_keys hR (HOS.out m)
            have hlen : (sortA (onM (ats s.p Q) (m : Int))).length = (sortA (onM (ats s.p pl) (m : Int))).length := by
              have := congrArg List.length (HOS.out m)
              simpa using this
            rw [hlen]
            have hl9 : (sortA (onM (ats s.p pl) (m : Int))).length ≤ 9223372036854775807 := by
              have h1 := (sortA_perm (onM (ats s.p pl) (m : Int))).length_eq
              have h2 : (onM (ats s.p pl) (m : Int)).length ≤ (ats s.p pl).length := List.length_filter_le _ _
              have h3 := ats_len s.p pl
              have h4 := ents_len hv
              omega
            clear hlen hR
            go_wp2_with fail
            refine (samePairs_any AO AR cO cR _ _ hl9 hO hR2).mono ?_
            rintro e W ⟨rfl, hb⟩
            clear c0 c1 c2 c3 c4 c5
            replace hk := hk.below hb hk.lt
            replace hP1 := hP1.on hb
            replace hO := hO.on hb
            replace hR2 := hR2.on hb
            replace hB := hB.trans (hb.mono hB.size)
            clear hb
            have c0 := hk.cell_ 0 rfl
            have c1 := hk.cell_ 1 rfl
            have c2 := hk.cell_ 2 rfl
            have c3 := hk.cell_ 3 rfl
            have c4 := hk.cell_ 4 rfl
            have c5 := hk.cell_ 5 rfl
            go_wp2_with fail
            go_roundw
            case rel => exact ⟨m + 1, by go_num, by omega, hk, hP1, hB⟩
            case measure => simp [intOf]; omega
          · go_wp2_with fail
            refine (first_any _).mono ?_
            rintro e W ⟨rfl, hb⟩
            clear c0 c1 c2 c3 c4 c5
            replace hk := hk.below hb hk.lt
            replace hP1 := hP1.on hb
            replace hB := hB.trans (hb.mono hB.size)
            clear hb
            have c0 := hk.cell_ 0 rfl
            have c1 := hk.cell_ 1 rfl
            have c2 := hk.cell_ 2 rfl
            have c3 := hk.cell_ 3 rfl
            have c4 := hk.cell_ 4 rfl
            have c5 := hk.cell_ 5 rfl
            go_wp2_with fail
            go_ret
            exact ⟨rfl, hB⟩
  · have hzb : ((judgeF s.p pl).2.2 != 0) = true := by simpa using hz
    have HZ := hide hz
    clear hz
    go_wp2_with fail
    refine (first_any _).mono ?_
    rintro e W ⟨rfl, hb⟩
    clear c0 c1 c2 c3 c4 c5
    replace hk := hk.below hb hk.lt
    replace hB := hB.trans (hb.mono hB.size)
    clear hb
    have c0 := hk.cell_ 0 rfl
    have c1 := hk.cell_ 1 rfl
    have c2 := hk.cell_ 2 rfl
    have c3 := hk.cell_ 3 rfl
    have c4 := hk.cell_ 4 rfl
    have c5 := hk.cell_ 5 rfl
    go_wp2_with fail
    go_ret
    exact ⟨rfl, hB⟩
end Go.Proofs.Ytcpnfcnobnjhdaa

/- A shop with one job: the plain law of ShopAlone. -/
namespace Go.Proofs.Ytcpnfcnobnjhdaa
open Go Go.Sort Go.RowKit StabAt
/-- the shop with one job -/
def oneS (p : Shop) (st : List Step) : Shop := { p with jobs := [st] }
theorem one_valid {p : Shop} (h : validShop p = true) {j : Nat} {st : List Step} (hj : p.jobs[j]? = some st) : validShop (oneS p st) = true := by
  simp only [validShop, headOk, Bool.and_eq_true, decide_eq_true_eq] at h ⊢
  obtain ⟨⟨⟨⟨⟨⟨⟨⟨⟨h1, h2⟩, h3⟩, h4⟩, h5⟩, h6⟩, h7⟩, h8⟩, h9⟩, h10⟩ := h
  refine ⟨⟨⟨⟨⟨⟨⟨⟨⟨h1, h2⟩, h3⟩, h4⟩, h5⟩, h6⟩, by simp [oneS]⟩, h8⟩, h9⟩, ?_⟩
  have := List.all_eq_true.1 h10 st (List.mem_of_getElem? hj)
  simp only [oneS, List.all_cons, List.all_nil, Bool.and_true]
  exact this
theorem next_one (p : Shop) (st : List Step) (t m : Int) : nextF (oneS p st) t m = nextF p t m := rfl
theorem chain_one (p : Shop) (st : List Step) : ∀ (l : List Step) (t e : Int), chainSt (oneS p st) l t e = chainSt p l t e
  | [], _, _ => rfl
  | x :: l, t, e => by
    show chainSt (oneS p st) l _ _ = chainSt p l _ _
    rw [next_one, chain_one p st l]
section
variable {q : Shop} {st : List Step} {R : List At}
theorem one_j (hq : SeqOk (oneS q st) R) {a : At} (h : a ∈ R) : a.j = 0 ∧ st[a.k]? = some a.x := by
  obtain ⟨s, h1, h2⟩ := hq.ok a h
  have hj : a.j = 0 := by
    have := (List.getElem?_eq_some_iff.1 h1).1
    simp [oneS] at this; omega
  rw [hj] at h1
  simp [oneS] at h1
  subst h1
  exact ⟨hj, h2⟩
theorem one_k (hq : SeqOk (oneS q st) R) : ∀ (i : Nat) (a : At), R[i]? = some a → a.k = i
  | 0, a, h => by
    rcases hq.prev h with ⟨h1, _⟩ | ⟨k, h1, i', b, h2, _⟩
    · exact h1
    · omega
  | i + 1, a, h => by
    have hlt : i < R.length := by have := (List.getElem?_eq_some_iff.1 h).1; omega
    have hb : R[i]? = some R[i] := List.getElem?_eq_getElem hlt
    have hbk := one_k hq i _ hb
    have hja := (one_j hq (List.mem_of_getElem? h)).1
    have hjb := (one_j hq (List.mem_of_getElem? hb)).1
    rcases hq.prev h with ⟨_, h2⟩ | ⟨k, h1, i', b, h2, h3, h4, h5, h6⟩
    · have := lastP_none h2 R[i] (List.mem_of_getElem? (i := i) (by rw [List.getElem?_take, if_pos (by omega)]; exact hb))
      simp [ofJ, hja, hjb] at this
    · have e : lastP (ofJ a.j) (R.take (i + 1)) = some R[i] := by
        rw [List.take_add_one, hb]
        show lastP _ (R.take i ++ [R[i]]) = _
        rw [lastP_snoc, if_pos (by simp [ofJ, hja, hjb])]
      rw [e] at h6
      injection h6 with h6
      rw [← h6] at h5
      omega
theorem one_len (hq : SeqOk (oneS q st) R) : R.length = st.length := by
  rcases Nat.lt_trichotomy R.length st.length with h | h | h
  · obtain ⟨a, ha, _, hk⟩ := hq.all 0 R.length st _ (by simp [oneS]) (List.getElem?_eq_getElem h)
    obtain ⟨i, hi⟩ := List.getElem?_of_mem ha
    have := one_k hq i a hi
    have := (List.getElem?_eq_some_iff.1 hi).1
    omega
  · exact h
  · have ha : R[st.length]? = some R[st.length] := List.getElem?_eq_getElem h
    have h1 := one_k hq _ _ ha
    have h2 := (one_j hq (List.mem_of_getElem? ha)).2
    have := (List.getElem?_eq_some_iff.1 h2).1
    omega
theorem one_rdy (hq : SeqOk (oneS q st) R) {i : Nat} {a : At} (h : R[i]? = some a) : rdyR (R.take (i + 1)) 0 = a.dry := by
  rw [List.take_add_one, h]
  show rdyR (R.take i ++ [a]) 0 = _
  rw [rdyR_snoc, if_pos (one_j hq (List.mem_of_getElem? h)).1]
theorem one_dry (hv : VShop (oneS q st)) (hq : SeqOk (oneS q st) R) (hp : Placed (oneS q st) R) {i' : Nat} {b : At} (hb : R[i']? = some b) : ∀ (n : Nat) (a : At), R[i' + n]? = some a → b.dry ≤ a.dry
  | 0, a, h => by rw [Nat.add_zero, hb] at h; injection h with h; subst h; exact Int.le_refl _
  | n + 1, a, h => by
    have hlt : i' + n < R.length := by have := (List.getElem?_eq_some_iff.1 h).1; omega
    have hc : R[i' + n]? = some R[i' + n] := List.getElem?_eq_getElem hlt
    have ih := one_dry hv hq hp hb n _ hc
    have h1 := (start_ge hv hq hp (i := i' + n + 1) h).1
    have h2 := (fromR_ge hv hq hp (i' + n + 1) a).2
    rw [(one_j hq (List.mem_of_getElem? h)).1, one_rdy hq hc] at h2
    have h3 := hq.step hv (List.mem_of_getElem? h)
    have h4 : a.dry = a.t + a.x.mi + a.x.d := rfl
    omega
/-- where all steps have one colour the machine never holds a step up -/
theorem one_from (hv : VShop (oneS q st)) (hq : SeqOk (oneS q st) R) (hp : Placed (oneS q st) R) {c0 : Int} (hc : ∀ (k : Nat) x, st[k]? = some x → x.c = c0) {i : Nat} {a : At} (h : R[i]? = some a) : fromR (oneS q st) (R.take i) a = rdyR (R.take i) 0 := by
  have hja := one_j hq (List.mem_of_getElem? h)
  unfold fromR
  cases hl : lastP (onB a.x.m) (R.take i) with
  | none => show rdyR _ a.j = _; rw [hja.1]
  | some b =>
    show max (rdyR (R.take i) a.j) (roomF (oneS q st) b a.x.c) = _
    rw [hja.1]
    obtain ⟨i', h1, _, _⟩ := lastP_some hl
    obtain ⟨h2, h3⟩ := take_get h1
    have hjb := one_j hq (List.mem_of_getElem? h3)
    have hcol : b.x.c = a.x.c := by rw [hc _ _ hjb.2, hc _ _ hja.2]
    have hr : roomF (oneS q st) b a.x.c = b.end_ := by unfold roomF; rw [if_pos hcol]
    rw [hr]
    have hlt : i - 1 < R.length := by have := (List.getElem?_eq_some_iff.1 h).1; omega
    have hd : R[i - 1]? = some R[i - 1] := List.getElem?_eq_getElem hlt
    have h4 := one_dry hv hq hp h3 (i - 1 - i') _ (by rw [show i' + (i - 1 - i') = i - 1 by omega]; exact hd)
    have h5 := one_rdy hq hd
    rw [show i - 1 + 1 = i by omega] at h5
    have h6 := hq.step hv (List.mem_of_getElem? h3)
    have h7 : b.dry = b.t + b.x.mi + b.x.d := rfl
    have h8 : b.end_ = b.t + b.x.mi := rfl
    omega
theorem one_ends (hv : VShop (oneS q st)) (hq : SeqOk (oneS q st) R) (hp : Placed (oneS q st) R) {c0 : Int} (hc : ∀ (k : Nat) x, st[k]? = some x → x.c = c0) : ∀ (n i : Nat) (e : Int), st.length - i = n → e ≤ rdyR (R.take i) 0 →
    e ≤ chainSt (oneS q st) (st.drop i) (rdyR (R.take i) 0) e ∧ ∀ (i' : Nat) b, i ≤ i' → R[i']? = some b → b.end_ ≤ chainSt (oneS q st) (st.drop i) (rdyR (R.take i) 0) e
  | 0, i, e, hn, _ => by
    rw [List.drop_eq_nil_of_le (by omega)]
    refine ⟨Int.le_refl _, fun i' b hi hb => ?_⟩
    have h1 := (List.getElem?_eq_some_iff.1 hb).1
    have h2 := one_len hq
    omega
  | n + 1, i, e, hn, he => by
    have hlen := one_len hq
    have hx : st[i]? = some (st[i]'(by omega)) := List.getElem?_eq_getElem _
    have ha : R[i]? = some (R[i]'(by omega)) := List.getElem?_eq_getElem _
    generalize R[i]'(by omega) = a at ha
    have hk := one_k hq i a ha
    have hja := one_j hq (List.mem_of_getElem? ha)
    rw [hk] at hja
    rw [chainSt_drop hja.2]
    have ht : a.t = nextF (oneS q st) (rdyR (R.take i) 0) a.x.mi := by
      have := (hp i a ha).1
      unfold startF at this
      rw [one_from hv hq hp hc ha] at this
      exact this
    rw [← ht]
    have hr := one_rdy hq ha
    have hdry : a.t + a.x.mi + a.x.d = rdyR (R.take (i + 1)) 0 := hr.symm
    have hend : a.t + a.x.mi = a.end_ := rfl
    have hs := hq.step hv (List.mem_of_getElem? ha)
    have hge := (start_ge hv hq hp ha).1
    rw [one_from hv hq hp hc ha] at hge
    rw [hdry, hend]
    obtain ⟨g1, g2⟩ := one_ends hv hq hp hc n (i + 1) a.end_ (by omega) (by omega)
    refine ⟨by omega, fun i' b hi hb => ?_⟩
    rcases Nat.lt_or_ge i i' with h | h
    · exact g2 i' b h hb
    · obtain rfl : i = i' := by omega
      rw [ha] at hb
      injection hb with hb
      subst hb
      exact g1
end
/-- the end of one job alone is not before its chain, and is it where all steps have one colour -/
theorem alone_end {p : Shop} (hvB : validShop p = true) {j : Nat} {st : List Step} (hj : p.jobs[j]? = some st) :
    chainF p st ≤ endV (oneS p st) (dispF (oneS p st)) ∧ ((∃ c0, ∀ (k : Nat) x, st[k]? = some x → x.c = c0) → endV (oneS p st) (dispF (oneS p st)) = chainF p st) := by
  have hv := valid_facts (one_valid hvB hj)
  have hz := disp_judge hv
  have h1 := end_chain hv hz (j := 0) (l := st) (by simp [oneS])
  have h2 : chainF (oneS p st) st = chainF p st := chain_one p st st 0 0
  rw [h2] at h1
  refine ⟨h1, fun ⟨c0, hc⟩ => ?_⟩
  obtain ⟨R, hq, hp, hd⟩ := disp_placed hv
  have h3 : endV (oneS p st) (dispF (oneS p st)) = endL R 0 := by
    unfold endV rightL
    rw [if_pos hz, hd]
    exact endL_perm ((sortA_perm _).trans (planR_perm hq)) 0
  obtain ⟨_, _, h4⟩ := endL_is R 0
  obtain ⟨g1, g2⟩ := one_ends hv hq hp hc st.length 0 0 rfl (Int.le_refl _)
  have h5 : chainSt (oneS p st) (st.drop 0) (rdyR (R.take 0) 0) 0 = chainF p st := h2
  rw [h5] at g1 g2
  rw [h3] at h1 ⊢
  rcases h4 with h4 | ⟨a, ha, h4⟩
  · omega
  · obtain ⟨i, hi⟩ := List.getElem?_of_mem ha
    have := g2 i a (Nat.zero_le _) hi
    omega
end Go.Proofs.Ytcpnfcnobnjhdaa
