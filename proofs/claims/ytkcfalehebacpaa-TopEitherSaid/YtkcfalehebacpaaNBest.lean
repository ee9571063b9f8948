/- done and best: the walks. -/
import Derived.Test.YtkcfalehebacpaaForced
import Derived.Test.YtkcfalehebacpaaNCheck
namespace Go.Proofs.Ytkcfalehebacpaa
open Go Go.RowKit
set_option maxRecDepth 100000 in
set_option maxHeartbeats 1000000 in
theorem mdone_any (K : Nat → Prop) (g : Nat) (AC : Option Addr) (cC cP cN bp bn : Nat) (C : List (List Int)) (N P : List Int) (w : World) (hM : Mem K w g AC cC cP cN bp bn C N P) (hl : N.length ≤ 100) :
    Calls Try.prog 66 #[.pointer (some ⟨g, 0, none⟩)] w fun e w' => e = .returned (.int .i64 (doneN N)) ∧ w = w' := by
  have g2 := hM.blk.cell_ 2 rfl
  obtain ⟨js, n1⟩ := hM.night
  have HN := hide n1
  clear n1
  go_enter Try.func66, Try.ntmps66
  go_wp2_with fail
  go_loopw [3, 11] (fun x y W => ∃ (j : Nat), x = .int .i64 ((N.take j).countP (fun v => decide (0 ≤ v)) : Nat) ∧ y = .int .i64 j ∧ j ≤ N.length ∧ w = W) (fun _ y _ => N.length - (intOf y).toNat)
  case atStart => exact ⟨0, by simp, rfl, Nat.zero_le _, rfl⟩
  case round =>
    obtain ⟨j, rfl, rfl, hj, rfl⟩ := hrel
    by_cases hlt : j < N.length
    · obtain ⟨v, hv⟩ : ∃ v, N[j]? = some v := ⟨_, List.getElem?_eq_getElem hlt⟩
      have nj := HN.out.cell_ j (intJ_get hv)
      have hcp : (N.take j).countP (fun v => decide (0 ≤ v)) ≤ j := Nat.le_trans List.countP_le_length (by rw [List.length_take]; omega)
      have HCS := hide (countP_snoc (f := fun v => decide (0 ≤ v)) hv)
      have hji : (j : Int) < (N.length : Int) := by omega
      clear hv
      by_cases h0 : 0 ≤ v
      · have HC : Hid ((N.take (j + 1)).countP (fun v => decide (0 ≤ v)) = (N.take j).countP (fun v => decide (0 ≤ v)) + 1) := by
          show _ = _
          rw [HCS.out, decide_eq_true h0]; rfl
        generalize (N.take j).countP (fun v => decide (0 ≤ v)) = cnt0 at *
        go_wp2_with fail
        go_roundw
        case rel => exact ⟨j + 1, by rw [HC.out]; go_num, by go_num, by omega, by simp⟩
        case measure => simp [intOf]; omega
      · have HC : Hid ((N.take (j + 1)).countP (fun v => decide (0 ≤ v)) = (N.take j).countP (fun v => decide (0 ≤ v))) := by
          show _ = _
          rw [HCS.out, decide_eq_false h0]; rfl
        generalize (N.take j).countP (fun v => decide (0 ≤ v)) = cnt0 at *
        go_wp2_with fail
        go_roundw
        case rel => exact ⟨j + 1, by rw [HC.out], by go_num, by omega, by simp⟩
        case measure => simp [intOf]; omega
    · obtain rfl : j = N.length := by omega
      have HD : Hid ((N.take N.length).countP (fun v => decide (0 ≤ v)) = doneN N) := by
        show _ = _
        rw [List.take_length]; rfl
      rw [HD.out]
      go_wp2_with fail
      go_ret
      exact ⟨rfl, rfl⟩
theorem BestInv.before {C0 : List (List Int)} {cap N : List Int} {goal j : Nat} {l0 : List Int} (hl0 : C0[j]? = some l0) (hasc : l0.Pairwise (· < ·)) {i k : Nat} (hi : l0[i]? = some (k : Int)) (hno : ∀ i', i' < i → ∀ k' : Nat, l0[i']? = some (k' : Int) → NoPlan C0 cap N goal j k') : ∀ k' : Nat, k' < k → NoPlan C0 cap N goal j k' := fun k' hk' N'' h1 h2 h3 => by
  rcases h1.ok j _ h2 with h4 | ⟨q, h4, _, h5⟩
  · omega
  · have : k' = q := by omega
    subst this
    obtain ⟨i', hi'⟩ := List.getElem?_of_mem (h5 l0 hl0)
    have hlt : i' < i := by
      rcases Nat.lt_or_ge i' i with h6 | h6
      · exact h6
      · exfalso
        rcases Nat.eq_or_lt_of_le h6 with h7 | h7
        · subst h7
          rw [hi] at hi'
          injection hi' with hi'
          omega
        · obtain ⟨e1, e2⟩ := List.getElem?_eq_some_iff.1 hi
          obtain ⟨e3, e4⟩ := List.getElem?_eq_some_iff.1 hi'
          have := (List.pairwise_iff_getElem.1 hasc) i i' e1 e3 h7
          rw [e2, e4] at this
          omega
    exact hno i' hlt k' hi' N'' h1 h2 h3
theorem NoExt.noPlan {C0 C : List (List Int)} {cap N P : List Int} {goal j k : Nat} (h : BestInv C0 C cap N P goal j) (hn : NoExt C cap N j k) : NoPlan C0 cap N goal j k := fun N'' h1 h2 h3 => (hn N'' (h.narrow h1 h2 h3) h2 h3).elim
theorem row_set' {C : List (List Int)} {job : Nat} {l' : List Int} (hl' : l'.length ≤ 100) (hcr : ∀ (i : Nat) l, C[i]? = some l → l.length ≤ 100) : ∀ (i : Nat) l, (C.set job l')[i]? = some l → l.length ≤ 100 := fun i l hl => by
  by_cases e : job = i
  · subst e
    have hj : job < C.length := by have := (List.getElem?_eq_some_iff.1 hl).1; simpa using this
    rw [List.getElem?_set_self hj] at hl
    injection hl with hl
    subst hl; exact hl'
  · rw [List.getElem?_set_ne e] at hl; exact hcr i l hl
/-- the rows of the clone, one of them now none -/
theorem rows_none {K : Nat → Prop} {w0 w : World} {rs : List Rw} {C : List (List Int)} {b job : Nat} {js : List Value} (hrl : rs.length = C.length) (hrs : ∀ (i : Nat) l, C[i]? = some l → ∃ A' c', rs[i]? = some (A', l.length, c') ∧ SlcIn K w0 A' l)
    (hb : Blk w b 26 ((rs.map rwV ++ js).toArray.setIfInBounds job (.slice none 0 0))) (hc : ∀ A l, SlcIn K w0 A l → SlcIn K w A l) : NestIn (fun q => K q ∨ q = b) w (some ⟨b, 0, none⟩) (C.set job []) := fun i l hl => by
  have hi : i < C.length := by have := (List.getElem?_eq_some_iff.1 hl).1; simpa using this
  by_cases e : job = i
  · subst e
    rw [List.getElem?_set_self hi] at hl
    injection hl with hl
    subst hl
    refine ⟨b, 0, none, 0, rfl, .inr rfl, ?_, fun j x hx => by cases hx⟩
    have := hb.cell_ job (v := .slice none 0 0) (by rw [Array.getElem?_setIfInBounds_self_of_lt (by simp; omega)])
    simpa using this
  · rw [List.getElem?_set_ne e] at hl
    obtain ⟨A', c', h1, h2⟩ := hrs i l hl
    refine ⟨b, 0, A', c', rfl, .inr rfl, ?_, fun j x hx => ?_⟩
    · have := hb.cell_ i (v := .slice A' l.length c') (by
        rw [Array.getElem?_setIfInBounds_ne e, List.getElem?_toArray, List.getElem?_append_left (by rw [List.length_map]; omega), List.getElem?_map, h1]; rfl)
      simpa using this
    · obtain ⟨b', off, g1, g2, g3⟩ := hc A' l h2 j x hx
      exact ⟨b', off, g1, .inl g2, g3⟩
theorem chooseL_get {ns : List Nit} {js : List Job} {i : Nat} {l : List Int} (h : (chooseL ns js)[i]? = some l) : ∃ j, js[i]? = some j ∧ l = chooseF ns j := by
  unfold chooseL at h
  rw [List.getElem?_map] at h
  cases hj : js[i]? with
  | none => rw [hj] at h; cases h
  | some j => rw [hj] at h; injection h with h; exact ⟨j, rfl, h.symm⟩
theorem chooseL_ok (ns : List Nit) (js : List Job) : ChOk (chooseL ns js) (capOf ns).length := fun i l hl v hv => by
  obtain ⟨j, _, rfl⟩ := chooseL_get hl
  obtain ⟨k, n, rfl, h1, _⟩ := chooseF_mem.1 hv
  have := (List.getElem?_eq_some_iff.1 h1).1
  unfold capOf
  rw [List.length_map]
  omega
theorem chooseL_rows (ns : List Nit) (js : List Job) (hn : ns.length ≤ 100) : ∀ (i : Nat) l, (chooseL ns js)[i]? = some l → l.length ≤ 100 := fun i l hl => by
  obtain ⟨j, _, rfl⟩ := chooseL_get hl
  rw [← chooseK_all]
  exact Nat.le_trans (chooseK_le _ _ _) hn
theorem chooseL_asc {ns : List Nit} {js : List Job} {i : Nat} {l : List Int} (h : (chooseL ns js)[i]? = some l) : l.Pairwise (· < ·) := by
  obtain ⟨j, _, rfl⟩ := chooseL_get h
  exact chooseF_asc ns j
theorem Mem.no_int {K : Nat → Prop} {w : World} {g : Nat} {AC : Option Addr} {cC cP cN bp bn : Nat} {C : List (List Int)} {N P : List Int} (h : Mem K w g AC cC cP cN bp bn C N P) (i : Nat) (x : Int) : w.cell? ⟨g, i, none⟩ ≠ some (.int .i64 x) := by
  rw [h.blk.cell i]
  rcases i with _ | _ | _ | i <;> simp
def BestPost (ns : List Nit) (js : List Job) (w : World) (e : Ending) (w' : World) : Prop :=
  ∃ A c' N, e = .returned (.slice A N.length c') ∧ Below w.heap.size w w' ∧ Slc intEnc 1 w' w'.heap.size A N ∧ IsBest (chooseL ns js) (capOf ns) N
set_option maxRecDepth 100000 in
set_option maxHeartbeats 8000000 in
theorem best_any (AJ : Option Addr) (cJ : Nat) (js : List Job) (AN : Option Addr) (cN0 : Nat) (ns : List Nit) (w : World) (hJ : Slc Job.enc 8 w w.heap.size AJ js) (hN : Slc Nit.enc 8 w w.heap.size AN ns) (hl1 : js.length ≤ 100) (hl2 : ns.length ≤ 100) (hcap : CapOk (capOf ns)) :
    Calls Try.prog 28 #[.slice AJ js.length cJ, .slice AN ns.length cN0] w (BestPost ns js w) := by
  have HCAP := hide hcap
  clear hcap
  go_enter Try.func28, Try.ntmps28
  go_wp2_with fail
  refine (choices_any AJ cJ js AN cN0 ns w hJ hN (by omega) (by omega)).mono ?_
  rintro e W1 ⟨AC0, cC0, rfl, hB1, hNest⟩
  have HL0 : Hid ((chooseL ns js).length = js.length) := by show _ = _; simp [chooseL]
  have HNest := hide hNest
  have hlc : (chooseL ns js).length ≤ 100 := by rw [HL0.out]; exact hl1
  clear hNest
  go_wp2_with fail
  refine (most_any AC0 cC0 (chooseL ns js) AN cN0 ns W1 HNest.out ((hN.below hB1).more hB1.size) hlc hl2 (chooseL_rows ns js hl2) (chooseL_ok ns js) HCAP.out).mono ?_
  rintro e W2 ⟨g, bp, bn, cP, cN, N, P, rfl, hM, hB2, hg, hbp, hbn, hV, hSt⟩
  have HMAX := hide (fun N' (h : Pl (chooseL ns js) (capOf ns) N') => stuck_pl hV HCAP.out hSt h)
  have HI := hide (BestInv.start hV)
  have hgoal : doneN N ≤ 100 := Nat.le_trans List.countP_le_length (by rw [← hV.sh.cl]; exact hlc)
  have HR := hide (chooseL_rows ns js hl2)
  clear hV hSt
  have g0 := hM.blk.cell_ 0 rfl
  generalize hgl : doneN N = goal at *
  clear hgl
  go_wp2_with fail
  clear g0
  have HK : Hid (∀ b, b < W1.heap.size → b < W2.heap.size) := fun b hb => Nat.lt_of_lt_of_le hb hB2.size
  go_loopw [26, 5] (fun x y W => ∃ (j : Nat) (K : Nat → Prop) (g : Nat) (AC : Option Addr) (cC cP cN bp bn : Nat) (C : List (List Int)) (N P : List Int), x = .int .i64 j ∧ y = .pointer (some ⟨g, 0, none⟩) ∧ j ≤ (chooseL ns js).length ∧ Mem K W g AC cC cP cN bp bn C N P ∧ Below W1.heap.size W1 W ∧ W1.heap.size ≤ g ∧ Hid ((∀ b, K b → b < W.heap.size) ∧ BestInv (chooseL ns js) C (capOf ns) N P goal j ∧ ∀ (i : Nat) l, C[i]? = some l → l.length ≤ 100)) (fun x _ _ => (chooseL ns js).length - (intOf x).toNat)
  case atStart => exact ⟨0, _, g, _, _, _, _, _, _, _, N, P, rfl, rfl, Nat.zero_le _, hM, hB2, hg, hide ⟨HK.out, HI.out, HR.out⟩⟩
  case round =>
    clear hM hB2 hg hbp hbn HI HR HK
    obtain ⟨W, rfl⟩ : ∃ W : World, W = wr := ⟨_, rfl⟩
    obtain ⟨j, K, g, AC, cC, cP, cN, bp, bn, C, N, P, rfl, rfl, hj, hM, hB, hg, HT⟩ := hrel
    by_cases hlt : j < (chooseL ns js).length
    · obtain ⟨l0, hl0⟩ : ∃ l, (chooseL ns js)[j]? = some l := ⟨_, List.getElem?_eq_getElem hlt⟩
      obtain ⟨b, off, A', c', hA, hKb, hcell, hrow⟩ := (HNest.out.wit hB (fun b h => h)) j l0 hl0
      have hl0l := chooseL_rows ns js hl2 j l0 hl0
      have hji : (j : Int) < ((chooseL ns js).length : Int) := by omega
      have HL := hide hl0
      have HROW := hide hrow
      have hAC : AC0 = some ⟨b, off, none⟩ := hA
      clear hl0 hrow hA
      subst hAC
      go_wp2_with fail
      clear hcell
      have hCC : C.length = (chooseL ns js).length := by rw [HT.out.2.1.vm.sh.cl, HT.out.2.1.pl0.len]
      have hNl : N.length ≤ 100 := by rw [HT.out.2.1.pl0.len]; exact hlc
      have hcl2 : (capOf ns).length ≤ 100 := by unfold capOf; rw [List.length_map]; exact hl2
      have HLEN := hide (And.intro hCC (And.intro hNl hcl2))
      clear hCC hNl hcl2
      go_loopw [33, 5, 9] (fun x y z W' => ∃ (i : Nat), x = .int .i64 i ∧ y = .pointer (some ⟨g, 0, none⟩) ∧ z = .bool false ∧ i ≤ l0.length ∧ Below W.heap.size W W' ∧ Hid (∀ i', i' < i → ∀ k' : Nat, l0[i']? = some (k' : Int) → NoPlan (chooseL ns js) (capOf ns) N goal j k')) (fun x _ _ _ => l0.length - (intOf x).toNat)
      case atStart => exact ⟨0, rfl, rfl, rfl, Nat.zero_le _, Below.refl _ _, hide fun i' h => absurd h (Nat.not_lt_zero _)⟩
      case round =>
        obtain ⟨W', rfl⟩ : ∃ W : World, W = wr := ⟨_, rfl⟩
        obtain ⟨i, rfl, rfl, rfl, hi, hB', HNO⟩ := hrel
        have hM' : Mem K W' g AC cC cP cN bp bn C N P := hM.far (S := fun _ => False) (.of_below hB') (fun h => h) (fun h => h) (fun h => h) (fun _ _ h => h)
        have HKw : Hid (∀ b, K b → b < W'.heap.size) := fun b hb => Nat.lt_of_lt_of_le (HT.out.1 b hb) hB'.size
        have hBB : Below W1.heap.size W1 W' := hB.trans (hB'.mono hB.size)
        by_cases hlti : i < l0.length
        · obtain ⟨v, hv⟩ : ∃ v, l0[i]? = some v := ⟨_, List.getElem?_eq_getElem hlti⟩
          obtain ⟨k, rfl⟩ : ∃ k : Nat, v = k := ⟨v.toNat, by have := chooseL_ok ns js j l0 HL.out v (List.mem_of_getElem? hv); omega⟩
          obtain ⟨b2, off2, hA2, _, d0⟩ := HROW.out i _ hv
          have d0' : W'.cell? ⟨b2, off2 + i, none⟩ = some (.int .i64 (k : Int)) := (hB'.cell (cell_in d0)).trans d0
          have hii : (i : Int) < (l0.length : Int) := by omega
          have HV := hide hv
          have hCj : C[j]? = some l0 := by rw [HT.out.2.1.back j (Nat.le_refl _)]; exact HL.out
          have HCJ := hide hCj
          clear hv d0 hCj
          subst hA2
          go_wp2_with fail
          refine (forced_any K g AC cC cP cN bp bn C (capOf ns) N P j k l0 W' HKw.out hM' HT.out.2.1.vm HCAP.out HT.out.2.1.front HT.out.2.2 (by rw [HLEN.out.1]; exact hlc) HLEN.out.2.2 HCJ.out (List.mem_of_getElem? HV.out)).mono ?_
          rintro e W3 ⟨hb3, ⟨rfl, hno⟩ | ⟨K', g', AC', cC', cP', cN', bp', bn', N', P', rfl, hM3, hK3, hg3, hbp3, hbn3, hF⟩⟩
          · have HNO2 : Hid (∀ i', i' < i + 1 → ∀ k' : Nat, l0[i']? = some (k' : Int) → NoPlan (chooseL ns js) (capOf ns) N goal j k') := fun i' h1 k' h2 => by
              by_cases e : i' = i
              · subst e
                rw [HV.out] at h2
                injection h2 with h2
                have : k = k' := by omega
                subst this
                exact NoExt.noPlan HT.out.2.1 hno
              · exact HNO.out i' (by omega) k' h2
            clear hno
            go_wp2_with fail
            go_roundw
            case rel => exact ⟨i + 1, by go_num, rfl, rfl, by omega, hB'.trans (hb3.mono hB'.size), HNO2⟩
            case measure => simp [intOf]; omega
          · have hN'l : N'.length ≤ 100 := by
              have h1 := hF.vm.sh.cl
              rw [List.length_set, HLEN.out.1] at h1
              omega
            have HF := hide hF
            have HB3 : Hid (Below W1.heap.size W1 W3) := hBB.trans (hb3.mono hBB.size)
            clear hF
            go_wp2_with fail
            refine (mdone_any K' g' AC' cC' cP' cN' bp' bn' _ N' P' W3 hM3 hN'l).mono ?_
            rintro e W4 ⟨rfl, rfl⟩
            by_cases hd : doneN N' = goal
            · have HQ : Hid ((∀ b, K' b → b < W3.heap.size) ∧ BestInv (chooseL ns js) (C.set j [(k : Int)]) (capOf ns) N' P' goal (j + 1) ∧ ∀ (i : Nat) l, (C.set j [(k : Int)])[i]? = some l → l.length ≤ 100) :=
                ⟨hK3, HT.out.2.1.found HL.out (List.mem_of_getElem? HV.out) HF.out hd (BestInv.before HL.out (chooseL_asc HL.out) HV.out HNO.out), row_set' (by simp) HT.out.2.2⟩
              have hg4 : W1.heap.size ≤ g' := Nat.le_trans hBB.size hg3
              go_wp2_with fail
              go_roundw
              case rel => exact ⟨j + 1, K', g', _, _, _, _, _, _, _, N', P', by go_num, rfl, by omega, hM3, HB3.out, hg4, HQ⟩
              case measure => simp [intOf]; omega
            · have hdf : ((doneN N' : Int) == (goal : Int)) = false := by simp <;> omega
              have HNO2 : Hid (∀ i', i' < i + 1 → ∀ k' : Nat, l0[i']? = some (k' : Int) → NoPlan (chooseL ns js) (capOf ns) N goal j k') := fun i' h1 k' h2 => by
                by_cases e : i' = i
                · subst e
                  rw [HV.out] at h2
                  injection h2 with h2
                  have : k = k' := by omega
                  subst this
                  exact HT.out.2.1.fails HL.out (List.mem_of_getElem? HV.out) HMAX.out HF.out hd
                · exact HNO.out i' (by omega) k' h2
              clear hd
              go_wp2_with fail
              go_roundw
              case rel => exact ⟨i + 1, by go_num, rfl, rfl, by omega, hB'.trans (hb3.mono hB'.size), HNO2⟩
              case measure => simp [intOf]; omega
        · obtain rfl : i = l0.length := by omega
          obtain ⟨rs, hrl, hRS, hrs⟩ := hM'.ch.rows HKw.out
          have hjr : j < rs.length := by rw [hrl, HLEN.out.1]; exact hlt
          have hr0 : rs ≠ [] := by rintro rfl; simp at hjr
          have hrl2 : rs.length ≤ 100 := by rw [hrl, HLEN.out.1]; exact hlc
          have g0 := hM'.blk.cell_ 0 rfl
          rw [← hrl] at g0
          have HRS := hide (And.intro hrl (And.intro hRS hrs))
          clear hrl hRS hrs
          go_wp2_with fail
          refine (cloneRow_any AC cC rs W' (by omega) HRS.out.2.1).mono ?_
          rintro e W3 ⟨A3, k3, rfl, hb3, _, hO3⟩
          obtain ⟨b3, js3, rfl, e3, B3⟩ := own_blk (g := rwV) (hO3 hr0) hr0
          clear hO3 g0
          have hM3 : Mem K W3 g AC cC cP cN bp bn C N P := hM'.far (S := fun _ => False) (.of_below hb3) (fun h => h) (fun h => h) (fun h => h) (fun _ _ h => h)
          have hgn : g ≠ b3 := hM3.blk.ne_ B3 (by decide)
          have HSZ : Hid (j < (rs.map rwV ++ js3).toArray.size) := by show _ < _; simp; omega
          have hjri : (j : Int) < (rs.length : Int) := by omega
          have HB3 : Hid (Below W1.heap.size W1 W3) := hBB.trans (hb3.mono hBB.size)
          have HGE : Hid (W1.heap.size ≤ b3) := Nat.le_trans hBB.size e3
          have HM3 := hide hM3
          have hG3 := hM3.blk
          clear hM3
          go_wp2_with (first
            | (refine wpList_store_at rfl 73 _ _ rfl (.slice (some ⟨b3, 0, none⟩) rs.length k3) hG3 rfl rfl (by kernel_rfl) rfl (by simp) rfl ?_; intro W4 G4 hc4; have g0 := G4.cell_ 0 (v := .slice (some ⟨b3, 0, none⟩) rs.length k3) rfl; have B4 := B3.chg1 hc4 (Ne.symm hgn))
            | (refine wpList_store_at rfl 26 _ _ rfl (.slice none 0 0) B4 rfl rfl (by kernel_rfl) rfl HSZ.out rfl ?_; intro W5 B5 hc5))
          obtain ⟨jp, p1⟩ := HM3.out.places
          obtain ⟨jn, n1⟩ := HM3.out.night
          have np := p1.ne_ B3 (by decide)
          have nn := n1.ne_ B3 (by decide)
          have q1 := (p1.chg1 hc4 (Ne.symm HM3.out.ne.1)).chg1 hc5 np
          have q2 := (n1.chg1 hc4 (Ne.symm HM3.out.ne.2.1)).chg1 hc5 nn
          have q3 := G4.chg1 hc5 hgn
          have hb4 : Below W1.heap.size W1 W4 := HB3.out.trans (hc4.below1 HB3.out.size hg)
          have hb5 : Below W1.heap.size W1 W5 := hb4.trans (hc5.below1 hb4.size HGE.out)
          have hs5 : W'.heap.size ≤ W5.heap.size := Nat.le_trans hb3.size (Nat.le_trans hc4.size hc5.size)
          have hnest : NestIn (fun q => K q ∨ q = b3) W5 (some ⟨b3, 0, none⟩) (C.set j []) := by
            refine rows_none HRS.out.1 HRS.out.2.2 B5 fun A l hs i' x hx => ?_
            obtain ⟨b', off', r1, r2, r3⟩ := hs i' x hx
            have r4 : b' ≠ g := by
              rintro rfl
              exact hM'.no_int _ _ r3
            have r5 : b' < W'.heap.size := HKw.out b' r2
            refine ⟨b', off', r1, r2, ?_⟩
            have r6 : W3.cell? ⟨b', off' + i', none⟩ = some (.int .i64 x) := (hb3.cell (p := ⟨b', off' + i', none⟩) r5).trans r3
            exact hc5.cell_ (hc4.cell_ r6 r4) (by show b' ≠ b3; omega)
          have hM5 : Mem (fun q => K q ∨ q = b3) W5 g (some ⟨b3, 0, none⟩) k3 cP cN bp bn (C.set j []) N P := by
            refine ⟨?_, hnest, ⟨jp, q1⟩, ⟨jn, q2⟩, HM3.out.ne, fun b hb => ?_⟩
            · rw [List.length_set, ← HRS.out.1]
              exact q3
            · rcases hb with hb | rfl
              · exact HM3.out.kk b hb
              · exact ⟨Ne.symm np, Ne.symm nn⟩
          have HQ : Hid ((∀ b, (K b ∨ b = b3) → b < W5.heap.size) ∧ BestInv (chooseL ns js) (C.set j []) (capOf ns) N P goal (j + 1) ∧ ∀ (i : Nat) l, (C.set j [])[i]? = some l → l.length ≤ 100) := by
            refine ⟨fun b hb => ?_, (HT.out.2.1.none_ HCAP.out HL.out fun k hk => ?_).1, row_set' (by simp) HT.out.2.2⟩
            · rcases hb with hb | rfl
              · exact Nat.lt_of_lt_of_le (HKw.out b hb) hs5
              · exact B5.lt
            · obtain ⟨i', hi'⟩ := List.getElem?_of_mem hk
              exact HNO.out i' (List.getElem?_eq_some_iff.1 hi').1 k hi'
          clear hM hM' B3 B4 B5 G4 g0 hG3 hc4 hc5 p1 n1 q1 q2 q3 hb4 hnest
          go_roundw
          case rel => exact ⟨j + 1, _, g, _, _, _, _, _, _, _, N, P, by go_num, rfl, by omega, hM5, hb5, hg, HQ⟩
          case measure => simp [intOf]; omega
    · obtain rfl : j = (chooseL ns js).length := by omega
      have g2 := hM.blk.cell_ 2 rfl
      obtain ⟨jn, n1⟩ := hM.night
      have hS := intJ_slc n1
      clear n1
      go_wp2_with fail
      go_ret
      exact ⟨_, _, N, rfl, hB1.trans (hB.mono hB1.size), hS, HT.out.2.1.best HMAX.out⟩
end Go.Proofs.Ytkcfalehebacpaa
