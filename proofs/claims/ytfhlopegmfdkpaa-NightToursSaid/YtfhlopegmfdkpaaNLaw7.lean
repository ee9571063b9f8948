/- NightTours: the walk. -/
import Derived.Test.YtfhlopegmfdkpaaNTourB
import Derived.Test.YtfhlopegmfdkpaaNRefTour
import Derived.Test.YtfhlopegmfdkpaaNLaw3
namespace Go.Proofs.Ytfhlopegmfdkpaa
open Go Go.RowKit
theorem Slc.chgN {α : Type} {enc : α → List Value} {sz : Nat} {w w' : World} {B : Nat} {A : Option Addr} {xs : List α} {g : Nat} (h : Slc enc sz w B A xs) (hc : Chg (fun k => k = g) w w') (hA : ∀ b off, A = some ⟨b, off, none⟩ → b ≠ g) : Slc enc sz w' B A xs := fun i x hx => by
  obtain ⟨b, off, h1, h2, h3⟩ := h i x hx
  exact ⟨b, off, h1, h2, fun j v hv => hc.cell_ (h3 j v hv) (hA b off h1)⟩
def boolJ (B : List Bool) : Array Value := (B.map Value.bool).toArray
theorem boolJ_get {B : List Bool} {i : Nat} {v : Bool} (h : B[i]? = some v) : (boolJ B)[i]? = some (.bool v) := by unfold boolJ; rw [List.getElem?_toArray, List.getElem?_map, h]; rfl
theorem boolJ_set {B : List Bool} {i : Nat} (v : Bool) : (boolJ B).setIfInBounds i (.bool v) = boolJ (B.set i v) := by unfold boolJ; rw [List.setIfInBounds_toArray, List.map_set]
theorem boolJ_lt {B : List Bool} {i : Nat} (h : i < B.length) : i < (boolJ B).size := by unfold boolJ; simpa using h
/-- whether a job's night lies before night k -/
def sB (pl : List Int) (k q : Nat) : Bool := match pl[q]? with | some v => decide (0 ≤ v ∧ v < (k : Int)) | none => false
theorem count_up {B : List Bool} {x : Nat} (h : B[x]? = some false) : (B.set x true).count true = B.count true + 1 := by
  obtain ⟨h1, h2⟩ := List.getElem?_eq_some_iff.1 h
  rw [List.count_set h1, h2]
  simp
theorem count_done {B : List Bool} {pl : List Int} {n : Nat} (hl : B.length = pl.length) (hb : ∀ v ∈ pl, v < (n : Int)) (h : ∀ q, q < pl.length → B[q]? = some (sB pl n q)) : B.count true = doneN pl := by
  have : B = pl.map fun v => decide (0 ≤ v) := by
    refine List.ext_getElem? fun q => ?_
    rcases Nat.lt_or_ge q pl.length with hq | hq
    · rw [h q hq, List.getElem?_map]
      unfold sB
      rw [List.getElem?_eq_getElem hq]
      have := hb _ (List.getElem_mem hq)
      show some (decide _) = some (decide _)
      congr 1
      exact decide_eq_decide.2 ⟨fun h => h.1, fun h => ⟨h, this⟩⟩
    · rw [List.getElem?_eq_none (by omega), List.getElem?_eq_none (by simpa using hq)]
  rw [this]
  unfold doneN
  rw [List.count, List.countP_map]
  congr 1
  funext v
  simp
theorem idxT_nodup (pl : List Int) (k : Int) : ∀ m, (idxT pl k m).Nodup
  | 0 => by simp [idxT]
  | m + 1 => by
    rw [idxT]
    split
    · refine List.nodup_append.2 ⟨idxT_nodup pl k m, by simp, fun a ha b hb e => ?_⟩
      have := (idxT_mem.1 ha).1
      simp at hb
      omega
    · rw [List.append_nil]; exact idxT_nodup pl k m
theorem not_in_take {S : List Nat} (h : S.Nodup) {i x : Nat} (hx : S[i]? = some x) : x ∉ S.take i := fun hm => by
  obtain ⟨j, hj⟩ := List.getElem?_of_mem hm
  have hji : j < i := by have := (List.getElem?_eq_some_iff.1 hj).1; rw [List.length_take] at this; omega
  rw [List.getElem?_take, if_pos hji] at hj
  have := (List.getElem?_inj (List.getElem?_eq_some_iff.1 hj).1 h).1 (hj.trans hx.symm)
  omega
theorem mem_take_succ {S : List Nat} {i x q : Nat} (hx : S[i]? = some x) : q ∈ S.take (i + 1) ↔ q ∈ S.take i ∨ q = x := by
  rw [List.take_add_one, hx, Option.toList_some, List.mem_append, List.mem_singleton]
set_option maxRecDepth 100000 in
set_option maxHeartbeats 8000000 in
theorem tours_walk (s : Sea) (AP : Option Addr) (cP : Nat) (pl : List Int) (w : World) (hS : SeaAt w s) (hP : Slc intEnc 1 w w.heap.size AP pl) (lp : pl.length ≤ maxLen) :
    Calls Try.prog 11 #[.agg #[.slice s.aJ s.js.length s.cJ, .slice s.aN s.ns.length s.cN], .slice AP pl.length cP] w fun e w' => e = .returned (.bool true) ∧ Below w.heap.size w w' := by
  obtain ⟨js, ns, aJ, cJ, aN, cN⟩ := s
  obtain ⟨hJ, hN, lj, ln⟩ := hS
  dsimp only at *
  unfold maxLen at lj ln lp
  have hk := Blk.new w 25 #[.slice aJ js.length cJ, .slice aN ns.length cN]
  have hB := (Below.refl w.heap.size w).alloc (Nat.le_refl _) (.cells #[.slice aJ js.length cJ, .slice aN ns.length cN] 25)
  go_enter Try.func11, Try.ntmps11
  go_wp2_with fail
  generalize w.alloc (.cells #[.slice aJ js.length cJ, .slice aN ns.length cN] 25) = W at *
  have c0 := hk.cell_ 0 rfl
  have c1 := hk.cell_ 1 rfl
  go_wp2_with fail
  refine (wide_any aJ cJ js aN cN ns 30 30 _).mono ?_
  rintro e W ⟨rfl, hb⟩
  clear c0 c1
  replace hk := hk.below hb hk.lt
  replace hB := hB.trans (hb.mono hB.size)
  clear hb
  have c0 := hk.cell_ 0 rfl
  have c1 := hk.cell_ 1 rfl
  cases hw : wideB js ns 30 30
  case true =>
    go_wp2_with fail
    refine (awake_any _).mono ?_
    rintro e W ⟨rfl, hb⟩
    clear c0 c1
    replace hk := hk.below hb hk.lt
    replace hB := hB.trans (hb.mono hB.size)
    clear hb
    have c0 := hk.cell_ 0 rfl
    have c1 := hk.cell_ 1 rfl
    go_wp2_with fail
    go_ret
    exact ⟨rfl, hB⟩
  obtain ⟨w1, w2⟩ := wideB_false (a := 30) (b := 30) hw
  clear hw
  by_cases hlp : (60 : Int) < (pl.length : Int)
  · go_wp2_with fail
    refine (awake_any _).mono ?_
    rintro e W ⟨rfl, hb⟩
    clear c0 c1
    replace hk := hk.below hb hk.lt
    replace hB := hB.trans (hb.mono hB.size)
    clear hb
    have c0 := hk.cell_ 0 rfl
    have c1 := hk.cell_ 1 rfl
    go_wp2_with fail
    go_ret
    exact ⟨rfl, hB⟩
  have hp60 : pl.length ≤ 60 := by omega
  go_wp2_with fail
  refine (refApiRight_any aJ cJ js aN cN ns AP cP pl _ (hJ.on hB) (hN.on hB) (hP.on hB) (by omega) (by omega) (by omega)).mono ?_
  rintro e W ⟨rfl, hb⟩
  clear c0 c1
  replace hk := hk.below hb hk.lt
  replace hB := hB.trans (hb.mono hB.size)
  clear hb
  have c0 := hk.cell_ 0 rfl
  have c1 := hk.cell_ 1 rfl
  by_cases hr0 : rErr js ns pl = 0
  case neg =>
    have hr1 : (rErr js ns pl != 0) = true := by simpa using hr0
    generalize rErr js ns pl = v1 at *
    generalize rOk js ns pl = v2 at *
    clear hr0
    go_wp2_with fail
    refine (awake_any _).mono ?_
    rintro e W ⟨rfl, hb⟩
    clear c0 c1
    replace hk := hk.below hb hk.lt
    replace hB := hB.trans (hb.mono hB.size)
    clear hb
    have c0 := hk.cell_ 0 rfl
    have c1 := hk.cell_ 1 rfl
    go_wp2_with fail
    go_ret
    exact ⟨rfl, hB⟩
  cases hro : rOk js ns pl
  case false =>
    rw [hr0]
    clear hr0 hro
    go_wp2_with fail
    refine (awake_any _).mono ?_
    rintro e W ⟨rfl, hb⟩
    clear c0 c1
    replace hk := hk.below hb hk.lt
    replace hB := hB.trans (hb.mono hB.size)
    clear hb
    have c0 := hk.cell_ 0 rfl
    have c1 := hk.cell_ 1 rfl
    go_wp2_with fail
    go_ret
    exact ⟨rfl, hB⟩
  rw [hr0]
  have hp0 : pErr js ns pl = 0 := by unfold pErr; rw [if_pos hr0, hro]; rfl
  have hd0 : dVal js ns pl = doneN pl := by unfold dVal; rw [if_pos hp0]
  obtain ⟨p1, p2, _⟩ := pErr_zero hp0
  have HOK := hide (jobs_chain (wrong_facts p1).1)
  have HPF := hide (formed_facts p2)
  have HP0 := hide (And.intro hp0 hd0)
  have hplj : pl.length = js.length := HPF.out.1
  have HPJ := hide hplj
  clear hr0 hro hp0 hd0 p1 p2 hplj
  have hmk : ∀ w, (Instr.makeSlice 68 (.int .i64 js.length) (.int .i64 js.length)).run Try.prog w = .ok (.slice (some ⟨w.heap.size, 0, none⟩) js.length js.length) (w.alloc (.cells (Array.replicate js.length (Value.bool false)) 4)) := fun w => by
    have := run_make1 (P := Try.prog) (bytes := 1) (z := .bool false) Try.underlying68 (by kernel_rfl) rfl (by omega) js.length (by omega) w
    simpa using this
  have hal := (Below.refl W.heap.size W).alloc (Nat.le_refl _) (.cells (Array.replicate js.length (Value.bool false)) 4)
  have ht := Blk.new W 4 (Array.replicate js.length (Value.bool false))
  go_wp2_with fail
  clear c0 c1
  have hkW := hk.lt
  replace hk := hk.below hal hkW
  replace hB := hB.trans (hal.mono hB.size)
  clear hmk hal
  generalize W.alloc (.cells (Array.replicate js.length (Value.bool false)) 4) = W2 at *
  generalize W.heap.size = bs at *
  clear W
  obtain ⟨W, rfl⟩ : ∃ W : World, W = W2 := ⟨_, rfl⟩
  have ht : Blk W bs 4 (boolJ (List.replicate js.length false)) := by
    have e : (Array.replicate js.length (Value.bool false)) = boolJ (List.replicate js.length false) := by unfold boolJ; simp
    rw [← e]; exact ht
  go_loopw [8, 9] (fun x y W => ∃ (k : Nat) (B : List Bool), x = .int .i64 (B.count true : Nat) ∧ y = .int .i64 k ∧ k ≤ ns.length ∧ B.length = js.length ∧ Hid (∀ q, q < js.length → B[q]? = some (sB pl k q)) ∧ Blk W w.heap.size 25 #[.slice aJ js.length cJ, .slice aN ns.length cN] ∧ Blk W bs 4 (boolJ B) ∧ Below w.heap.size w W) (fun x y _ => ns.length - (intOf y).toNat)
  case atStart => exact ⟨0, List.replicate js.length false, by (rw [List.count_replicate]; simp), rfl, Nat.zero_le _, by simp, hide fun q hq => by (rw [List.getElem?_replicate, if_pos hq]; unfold sB; cases pl[q]? with | none => rfl | some v => exact congrArg some (decide_eq_false (by omega)).symm), hk, ht, hB⟩
  case round =>
    clear hk ht hB
    obtain ⟨W, rfl⟩ : ∃ W : World, W = wr := ⟨_, rfl⟩
    obtain ⟨k, B, rfl, rfl, hkk, hBl, HBB, hk, ht, hB⟩ := hrel
    have HBL := hide hBl
    by_cases hkn : k < ns.length
    · have hki : (k : Int) < (ns.length : Int) := by omega
      have hbsW := ht.lt
      have c0 := hk.cell_ 0 rfl
      have c1 := hk.cell_ 1 rfl
      go_wp2_with fail
      refine (tourB_any aJ cJ js aN cN ns AP cP pl (k : Int) _ (hJ.on hB) (hN.on hB) (hP.on hB) (by omega) (by omega) (by omega)).mono ?_
      rintro e W ⟨A1, k1, rfl, hb, hT, hfr⟩
      clear c0 c1
      replace hk := hk.below hb hk.lt
      replace ht := ht.below hb ht.lt
      replace hB := hB.trans (hb.mono hB.size)
      clear hb
      have c0 := hk.cell_ 0 rfl
      have c1 := hk.cell_ 1 rfl
      have hE : tourE js ns pl (k : Int) = 0 := by unfold tourE; rw [if_pos HP0.out.1, inB_iff.2 ⟨by omega, by omega⟩]; rfl
      have hTT : tourT js ns pl (k : Int) = castL (sortK (chF js) (idxT pl (k : Int) pl.length)) := by unfold tourT; rw [if_pos hE]; rfl
      have HFR : Hid (∀ b off, A1 = some ⟨b, off, none⟩ → b ≠ bs) := fun b off h => by have := hfr b off h; omega
      have HND : Hid (sortK (chF js) (idxT pl (k : Int) pl.length)).Nodup := (sortK_perm (chF js) _).nodup_iff.2 (idxT_nodup pl (k : Int) pl.length)
      have HMEM : Hid (∀ q, q ∈ sortK (chF js) (idxT pl (k : Int) pl.length) ↔ q < pl.length ∧ pl[q]? = some (k : Int)) := fun q => (sortK_perm (chF js) _).mem_iff.trans idxT_mem
      have HASC := hide (sortK_asc (chF js) (idxT pl (k : Int) pl.length))
      have HSL : Hid ((sortK (chF js) (idxT pl (k : Int) pl.length)).length ≤ pl.length) := by show _ ≤ _; rw [sortK_len]; exact idxT_len _ _ _
      rw [hE, hTT]
      rw [hTT] at hT
      clear hE hTT hfr hbsW
      generalize sortK (chF js) (idxT pl (k : Int) pl.length) = S at *
      rcases S with _ | ⟨s0, S1⟩
      · have HB2 : Hid (∀ q, q < js.length → B[q]? = some (sB pl (k + 1) q)) := fun q hq => by
          rw [HBB.out q hq]
          unfold sB
          cases hv : pl[q]? with
          | none => rfl
          | some v =>
            have : v ≠ (k : Int) := fun e => by
              have := (HMEM.out q).2 ⟨(List.getElem?_eq_some_iff.1 hv).1, by rw [hv, e]⟩
              cases this
            exact congrArg some (decide_eq_decide.2 ⟨fun h => ⟨h.1, by omega⟩, fun h => ⟨h.1, by omega⟩⟩)
        clear hT hBl
        go_wp2_with fail
        refine wp_loop_rounds 1 ?_
        rw [rounds_succ]
        go_wp2_with fail
        go_wp2_with fail
        refine wp_region_quiet (C := fun w' => ∃ u : Since W, w' = u.w) (by kernel_rfl) (by kernel_rfl) (Since.start W) ?_
        dsimp only
        have y_c0 := Since.cell c0
        have y_c1 := Since.cell c1
        clear c0 c1
        repeat (go_big_quiet_step ((fail)))
        refine wpQuiet_nil ?_
        rintro W ⟨⟨_, hb⟩, rfl⟩
        try dsimp only at hb ⊢
        clear y_c0 y_c1
        replace hk := hk.below hb hk.lt
        replace ht := ht.below hb ht.lt
        replace hB := hB.trans (hb.mono hB.size)
        clear hb
        have c0 := hk.cell_ 0 rfl
        have c1 := hk.cell_ 1 rfl
        go_wp2_with fail
        go_roundw
        case rel => exact ⟨k + 1, B, rfl, by go_num, by omega, HBL.out, HB2, hk, ht, hB⟩
        case measure => simp [intOf]; omega
      · obtain ⟨S, hSd⟩ : ∃ S, S = s0 :: S1 := ⟨_, rfl⟩
        obtain ⟨m, hm⟩ : ∃ m, S1.length = m := ⟨_, rfl⟩
        have HSM : Hid (S.length = m + 1) := by show _ = _; rw [hSd, List.length_cons, hm]
        rw [← hSd] at hT HND HMEM HASC HSL ⊢
        have hTl : (castL S).length = m + 1 := by rw [castL_len]; exact HSM.out
        have HTl := hide hTl
        rw [hTl]
        have hm1 : m ≤ 60 := by have := HSL.out; have := HSM.out; omega
        clear hSd hm hTl
        -- the ends of the tour
        obtain ⟨qa, hqa⟩ : ∃ q, S[0]? = some q := ⟨_, List.getElem?_eq_getElem (by have := HSM.out; omega)⟩
        obtain ⟨qb, hqb⟩ : ∃ q, S[m]? = some q := ⟨_, List.getElem?_eq_getElem (by have := HSM.out; omega)⟩
        have hqa1 : qa < js.length := by rw [← HPJ.out]; exact ((HMEM.out qa).1 (List.mem_of_getElem? hqa)).1
        have hqb1 : qb < js.length := by rw [← HPJ.out]; exact ((HMEM.out qb).1 (List.mem_of_getElem? hqb)).1
        obtain ⟨ja, hja⟩ : ∃ j, js[qa]? = some j := ⟨_, List.getElem?_eq_getElem hqa1⟩
        obtain ⟨jb, hjb⟩ : ∃ j, js[qb]? = some j := ⟨_, List.getElem?_eq_getElem hqb1⟩
        have hfar := far_at HTl.out (castL_at hqa) (castL_at hqb) hja hjb
        rw [hfar]
        have HQA := hide (And.intro hqa hja)
        have HQB := hide (And.intro hqb hjb)
        have hz : (((m + 1 : Nat) : Int) == 0) = false := by simp; omega
        clear hfar hqa hqb hja hjb hz
        have hcB : B.count true ≤ 60 := Nat.le_trans List.count_le_length (by omega)
        clear hBl
        go_wp2_with fail
        clear c0 c1
        go_loopw [8, 13] (fun x y W => ∃ (i : Nat) (B : List Bool), x = .int .i64 (B.count true : Nat) ∧ y = .int .i64 i ∧ i ≤ m + 1 ∧ B.length = js.length ∧ Hid (∀ q, q < js.length → B[q]? = some (sB pl k q || decide (q ∈ S.take i))) ∧ Blk W w.heap.size 25 #[.slice aJ js.length cJ, .slice aN ns.length cN] ∧ Blk W bs 4 (boolJ B) ∧ Slc intEnc 1 W W.heap.size A1 (castL S) ∧ Below w.heap.size w W) (fun x y _ => m + 1 - (intOf y).toNat)
        case atStart => exact ⟨0, B, rfl, rfl, Nat.zero_le _, HBL.out, hide fun q hq => by (rw [HBB.out q hq]; simp), hk, ht, hT, hB⟩
        case round =>
          clear hk ht hT hB hcB HBL HBB
          obtain ⟨W, rfl⟩ : ∃ W : World, W = wr := ⟨_, rfl⟩
          obtain ⟨i, B, rfl, rfl, hi, hBl, HBB, hk, ht, hT, hB⟩ := hrel
          have HBL := hide hBl
          have hcB : B.count true ≤ 60 := Nat.le_trans List.count_le_length (by omega)
          clear hBl
          by_cases hlt : i < m + 1
          · have hii : (i : Int) < (m : Int) + 1 := by omega
            obtain ⟨x, hx⟩ : ∃ x, S[i]? = some x := ⟨_, List.getElem?_eq_getElem (by have := HSM.out; omega)⟩
            obtain ⟨hx1, hx2⟩ := (HMEM.out x).1 (List.mem_of_getElem? hx)
            have hxj : x < js.length := by rw [← HPJ.out]; exact hx1
            have hBx : B[x]? = some false := by
              rw [HBB.out x hxj]
              have e1 : sB pl k x = false := by unfold sB; rw [hx2]; exact decide_eq_false (by omega)
              rw [e1, decide_eq_false (not_in_take HND.out hx)]; rfl
            have HCU := hide (count_up hBx)
            have HSZ := hide (boolJ_lt (B := B) (i := x) (by rw [HBL.out]; exact hxj))
            have HBL2 : Hid ((B.set x true).length = js.length) := by show _ = _; rw [List.length_set]; exact HBL.out
            have HB2 : Hid (∀ q, q < js.length → (B.set x true)[q]? = some (sB pl k q || decide (q ∈ S.take (i + 1)))) := fun q hq => by
              by_cases e : x = q
              · subst e
                rw [List.getElem?_set_self (by rw [HBL.out]; exact hq), decide_eq_true ((mem_take_succ hx).2 (.inr rfl)), Bool.or_true]
              · rw [List.getElem?_set_ne e, HBB.out q hq]
                congr 2
                exact decide_eq_decide.2 ⟨fun h => (mem_take_succ hx).2 (.inl h), fun h => ((mem_take_succ hx).1 h).resolve_right fun h => e h.symm⟩
            obtain ⟨u1, b, off, hu1, hA, _, d1⟩ := ints_at' hT (show i < (castL S).length by rw [HTl.out]; exact hlt)
            obtain rfl : u1 = (x : Int) := by rw [castL_at hx] at hu1; injection hu1 with hu1; exact hu1.symm
            obtain ⟨u2, b2, off2, hu2, hA2, _, d2⟩ := ints_at' (hP.below hB) hx1
            obtain rfl : u2 = (k : Int) := by rw [hx2] at hu2; injection hu2 with hu2; exact hu2.symm
            have d3 := ht.cell_ x (boolJ_get hBx)
            obtain ⟨jx, b4, off4, hjx, hA4, _, hc4⟩ := job_at (hJ.below hB) hxj
            have d4 := hc4 2 _ rfl
            have hxi : (x : Int) < (js.length : Int) := by omega
            have hxp : (x : Int) < (pl.length : Int) := by omega
            have g1 : decide ((x : Int) < 0) = false := decide_eq_false (by omega)
            have g2 : decide ((x : Int) ≥ (js.length : Int)) = false := decide_eq_false (by omega)
            have g3 : decide ((js.length : Int) ≤ (x : Int)) = false := decide_eq_false (by omega)
            have g4 : ((k : Int) != (k : Int)) = false := by simp
            have g8 : decide (js.length ≤ x) = false := decide_eq_false (by omega)
            have g9 : decide (x ≥ js.length) = false := decide_eq_false (by omega)
            have hbsl := ht.lt
            have hkl := hk.lt
            have e8 : IntKind.i64.wrap ((B.count true : Nat) + 1 : Int) = ((B.count true : Nat) + 1 : Int) := IntWalk.i64_in _ (by omega)
            subst hA hA2 hA4
            rcases i with _ | i
            · clear hu1 hu2 hx2 hc4 hjx hx hBx
              simp only [Nat.add_zero] at d1
              go_wp2_with fail
              have c0 := hk.cell_ 0 rfl
              have c1 := hk.cell_ 1 rfl
              refine wp_region_quiet (C := fun w' => ∃ u : Since W, w' = u.w) (by kernel_rfl) (by kernel_rfl) (Since.start W) ?_
              dsimp only
              have y_c0 := Since.cell c0
              have y_c1 := Since.cell c1
              have y_d1 := Since.cell d1
              have y_d2 := Since.cell d2
              have y_d3 := Since.cell d3
              have y_d4 := Since.cell d4
              clear c0 c1
              repeat (go_big_quiet_step ((fail)))
              refine wpQuiet_nil ?_
              rintro W ⟨⟨_, hb⟩, rfl⟩
              try dsimp only at hb ⊢
              replace d1 : W.cell? _ = _ := y_d1 ⟨W, hb⟩
              replace d2 : W.cell? _ = _ := y_d2 ⟨W, hb⟩
              replace d3 : W.cell? _ = _ := y_d3 ⟨W, hb⟩
              replace d4 : W.cell? _ = _ := y_d4 ⟨W, hb⟩
              clear y_c0 y_c1 y_d1 y_d2 y_d3 y_d4
              replace hk := hk.below hb hk.lt
              replace ht := ht.below hb ht.lt
              replace hT := Slc.on hT hb
              replace hB := hB.trans (hb.mono hB.size)
              clear hb
              have c0 := hk.cell_ 0 rfl
              have c1 := hk.cell_ 1 rfl
              clear d2 d3 d4
              go_upto_region 20 with (refine wpList_store_at rfl 4 _ _ rfl (.bool true) ht rfl rfl (by kernel_rfl) rfl HSZ.out rfl ?_; intro W2 ht2 hc2)
              clear c0 c1
              rw [boolJ_set] at ht2
              clear d1
              have hkW := hk.lt
              replace hk := hk.chg1 hc2 (by omega)
              replace hT := (Slc.chgN hT hc2 HFR.out).more hc2.size
              replace hB := hB.trans (hc2.below1 hB.size (by omega))
              clear ht hc2 hkW
              have ht := ht2
              clear ht2
              obtain ⟨W, rfl⟩ : ∃ W : World, W = W2 := ⟨_, rfl⟩
              go_wp2_with fail
              go_roundw
              case rel =>
                skip
                exact ⟨0 + 1, B.set x true, by rw [HCU.out]; go_num, by go_num, by omega, HBL2.out, HB2, hk, ht, hT, hB⟩
              case measure => simp [intOf]
            · have hil : i < m + 1 := by omega
              obtain ⟨xp, hxp0⟩ : ∃ x, S[i]? = some x := ⟨_, List.getElem?_eq_getElem (by have := HSM.out; omega)⟩
              have hle := asc_le HASC.out hxp0 hx (by omega)
              have hxpj : xp < js.length := by rw [← HPJ.out]; exact ((HMEM.out xp).1 (List.mem_of_getElem? hxp0)).1
              obtain ⟨u5, b5, off5, hu5, hA5, _, d5⟩ := ints_at' hT (show i < (castL S).length by rw [HTl.out]; omega)
              obtain rfl : u5 = (xp : Int) := by rw [castL_at hxp0] at hu5; injection hu5 with hu5; exact hu5.symm
              obtain ⟨rfl, rfl⟩ : b = b5 ∧ off = off5 := by simpa using hA5
              obtain ⟨jp, b6, off6, hjp, hA6, _, hc6⟩ := job_at (hJ.below hB) hxpj
              obtain ⟨rfl, rfl⟩ : b4 = b6 ∧ off4 = off6 := by simpa using hA6
              have d6 := hc6 2 _ rfl
              rw [chF_at hjp, chF_at hjx] at hle
              have g5 : decide (jx.chain < jp.chain) = false := decide_eq_false (by omega)
              have g6 : decide ((i : Int) + 1 > 0) = true := decide_eq_true (by omega)
              have g7 : decide ((0 : Int) < (i : Int) + 1) = true := decide_eq_true (by omega)
              have hxpi : (xp : Int) < (js.length : Int) := by omega
              have e7 : IntKind.i64.wrap (i : Int) = (i : Int) := IntWalk.i64_in _ (by omega)
              have e6 : (0 : Int) < (i : Int) + 1 := by omega
              have e5 : (i : Int) < (m : Int) + 1 := by omega
              obtain ⟨i1, hi1⟩ : ∃ i1, i1 = i + 1 := ⟨_, rfl⟩
              have y1 : ((i : Int) + 1).toNat = i1 := by omega
              rw [← hi1] at d1
              have HI1 := hide hi1
              clear hu1 hu2 hx2 hc4 hjx hx hBx hxp0 hu5 hjp hc6 hi1
              go_wp2_with fail
              have c0 := hk.cell_ 0 rfl
              have c1 := hk.cell_ 1 rfl
              refine wp_region_quiet (C := fun w' => ∃ u : Since W, w' = u.w) (by kernel_rfl) (by kernel_rfl) (Since.start W) ?_
              dsimp only
              have y_c0 := Since.cell c0
              have y_c1 := Since.cell c1
              have y_d1 := Since.cell d1
              have y_d2 := Since.cell d2
              have y_d3 := Since.cell d3
              have y_d4 := Since.cell d4
              have y_d5 := Since.cell d5
              have y_d6 := Since.cell d6
              clear c0 c1
              repeat (go_big_quiet_step ((fail)))
              refine wpQuiet_nil ?_
              rintro W ⟨⟨_, hb⟩, rfl⟩
              try dsimp only at hb ⊢
              replace d1 : W.cell? _ = _ := y_d1 ⟨W, hb⟩
              replace d2 : W.cell? _ = _ := y_d2 ⟨W, hb⟩
              replace d3 : W.cell? _ = _ := y_d3 ⟨W, hb⟩
              replace d4 : W.cell? _ = _ := y_d4 ⟨W, hb⟩
              replace d5 : W.cell? _ = _ := y_d5 ⟨W, hb⟩
              replace d6 : W.cell? _ = _ := y_d6 ⟨W, hb⟩
              clear y_c0 y_c1 y_d1 y_d2 y_d3 y_d4 y_d5 y_d6
              replace hk := hk.below hb hk.lt
              replace ht := ht.below hb ht.lt
              replace hT := Slc.on hT hb
              replace hB := hB.trans (hb.mono hB.size)
              clear hb
              have c0 := hk.cell_ 0 rfl
              have c1 := hk.cell_ 1 rfl
              clear d2 d3 d4 d5 d6
              go_upto_region 20 with (refine wpList_store_at rfl 4 _ _ rfl (.bool true) ht rfl rfl (by kernel_rfl) rfl HSZ.out rfl ?_; intro W2 ht2 hc2)
              clear c0 c1
              rw [boolJ_set] at ht2
              clear d1
              have hkW := hk.lt
              replace hk := hk.chg1 hc2 (by omega)
              replace hT := (Slc.chgN hT hc2 HFR.out).more hc2.size
              replace hB := hB.trans (hc2.below1 hB.size (by omega))
              clear ht hc2 hkW
              have ht := ht2
              clear ht2
              obtain ⟨W, rfl⟩ : ∃ W : World, W = W2 := ⟨_, rfl⟩
              go_wp2_with fail
              go_roundw
              case rel =>
                have hi1 := HI1.out
                exact ⟨(i + 1) + 1, B.set x true, by rw [HCU.out]; go_num, by go_num, by omega, HBL2.out, HB2, hk, ht, hT, hB⟩
              case measure => (have hi1 := HI1.out; simp [intOf]; omega)
          · obtain rfl : i = m + 1 := by omega
            have HB2 : Hid (∀ q, q < js.length → B[q]? = some (sB pl (k + 1) q)) := fun q hq => by
              rw [HBB.out q hq, List.take_of_length_le (by have := HSM.out; omega)]
              congr 1
              have hql : q < pl.length := by rw [HPJ.out]; exact hq
              have hv : pl[q]? = some pl[q] := List.getElem?_eq_getElem hql
              unfold sB
              rw [hv]
              show (decide _ || decide _) = decide _
              rw [← Bool.decide_or]
              refine decide_eq_decide.2 ⟨fun h => ?_, fun h => ?_⟩
              · rcases h with h | h
                · exact ⟨h.1, by omega⟩
                · have := ((HMEM.out q).1 h).2
                  rw [hv] at this
                  injection this with this
                  omega
              · by_cases e : pl[q] = (k : Int)
                · right
                  exact (HMEM.out q).2 ⟨hql, by rw [hv, e]⟩
                · left
                  exact ⟨h.1, by omega⟩
            obtain ⟨u0, b0, o0, hu0, hA0, _, f0⟩ := ints_at' hT (show 0 < (castL S).length by rw [HTl.out]; omega)
            obtain ⟨u1, b1, o1, hu1, hA1, _, f1⟩ := ints_at' hT (show m < (castL S).length by rw [HTl.out]; omega)
            obtain rfl : u0 = (qa : Int) := by rw [castL_at HQA.out.1] at hu0; injection hu0 with hu0; exact hu0.symm
            obtain rfl : u1 = (qb : Int) := by rw [castL_at HQB.out.1] at hu1; injection hu1 with hu1; exact hu1.symm
            subst hA0
            obtain ⟨rfl, rfl⟩ : b0 = b1 ∧ o0 = o1 := by simpa using hA1
            obtain ⟨x', b2, off2, hx', hA2, _, hcx⟩ := job_at (hJ.below hB) hqa1
            obtain ⟨y', b3, off3, hy', hA3, _, hcy⟩ := job_at (hJ.below hB) hqb1
            obtain rfl : x' = ja := by have := HQA.out.2; rw [hx'] at this; injection this
            obtain rfl : y' = jb := by have := HQB.out.2; rw [hy'] at this; injection this
            have hxb := HOK.out x' (List.mem_of_getElem? hx')
            have hyb := HOK.out y' (List.mem_of_getElem? hy')
            have e9 : IntKind.i64.wrap (y'.chain - x'.chain) = y'.chain - x'.chain := IntWalk.i64_in _ (by omega)
            subst hA2
            obtain ⟨rfl, rfl⟩ : b2 = b3 ∧ off2 = off3 := by simpa using hA3
            have dx := hcx 2 _ rfl
            have dy := hcy 2 _ rfl
            have i0 : (qa : Int) < (js.length : Int) := by omega
            have i1 : (qb : Int) < (js.length : Int) := by omega
            have e3 : IntKind.i64.wrap (m : Int) = (m : Int) := IntWalk.i64_in _ (by omega)
            have e4 : (m : Int) < (m : Int) + 1 := by omega
            have e2 : (0 : Int) < (m : Int) + 1 := by omega
            simp only [Nat.add_zero] at f0
            clear hx' hy' hcx hcy hu0 hu1
            go_wp2_with fail
            have c0 := hk.cell_ 0 rfl
            have c1 := hk.cell_ 1 rfl
            refine wp_region_quiet (C := fun w' => ∃ u : Since W, w' = u.w) (by kernel_rfl) (by kernel_rfl) (Since.start W) ?_
            dsimp only
            have y_c0 := Since.cell c0
            have y_c1 := Since.cell c1
            have y_f0 := Since.cell f0
            have y_f1 := Since.cell f1
            have y_dx := Since.cell dx
            have y_dy := Since.cell dy
            clear c0 c1
            repeat (go_big_quiet_step ((fail)))
            refine wpQuiet_nil ?_
            rintro W ⟨⟨_, hb⟩, rfl⟩
            try dsimp only at hb ⊢
            replace f0 : W.cell? _ = _ := y_f0 ⟨W, hb⟩
            replace f1 : W.cell? _ = _ := y_f1 ⟨W, hb⟩
            replace dx : W.cell? _ = _ := y_dx ⟨W, hb⟩
            replace dy : W.cell? _ = _ := y_dy ⟨W, hb⟩
            clear y_c0 y_c1 y_f0 y_f1 y_dx y_dy
            replace hk := hk.below hb hk.lt
            replace ht := ht.below hb ht.lt
            replace hT := Slc.on hT hb
            replace hB := hB.trans (hb.mono hB.size)
            clear hb
            have c0 := hk.cell_ 0 rfl
            have c1 := hk.cell_ 1 rfl
            clear f0 f1 dx dy hT
            go_wp2_with fail
            go_roundw
            case rel => exact ⟨k + 1, B, rfl, by go_num, by omega, HBL.out, HB2, hk, ht, hB⟩
            case measure => simp [intOf]; omega
    · obtain rfl : k = ns.length := by omega
      have HCD := hide (count_done (B := B) (pl := pl) (n := ns.length) (by rw [HBL.out, HPJ.out]) (fun v hv => (HPF.out.2 v hv).2) (fun q hq => HBB.out q (by rw [← HPJ.out]; exact hq)))
      rw [HCD.out]
      clear hBl
      have c0 := hk.cell_ 0 rfl
      have c1 := hk.cell_ 1 rfl
      go_wp2_with fail
      refine (apiDone_any aJ cJ js aN cN ns AP cP pl _ (hJ.on hB) (hN.on hB) (hP.on hB) (by omega) (by omega) (by omega)).mono ?_
      rintro e W ⟨rfl, hb⟩
      clear c0 c1
      replace hk := hk.below hb hk.lt
      replace ht := ht.below hb ht.lt
      replace hB := hB.trans (hb.mono hB.size)
      clear hb
      have c0 := hk.cell_ 0 rfl
      have c1 := hk.cell_ 1 rfl
      rw [HP0.out.1, HP0.out.2]
      generalize doneN pl = D at *
      go_wp2_with fail
      refine (awake_any _).mono ?_
      rintro e W ⟨rfl, hb⟩
      clear c0 c1
      replace hk := hk.below hb hk.lt
      replace ht := ht.below hb ht.lt
      replace hB := hB.trans (hb.mono hB.size)
      clear hb
      have c0 := hk.cell_ 0 rfl
      have c1 := hk.cell_ 1 rfl
      go_wp2_with fail
      go_ret
      exact ⟨rfl, hB⟩
end Go.Proofs.Ytfhlopegmfdkpaa
