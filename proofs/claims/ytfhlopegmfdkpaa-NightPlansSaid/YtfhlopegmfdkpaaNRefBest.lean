/- best of the reference, and what stands on it: the walks. -/
import Derived.Test.YtfhlopegmfdkpaaNBestOf
import Derived.Test.YtfhlopegmfdkpaaNRefRight
import Derived.Test.YtfhlopegmfdkpaaNLaw3
import Derived.Test.YtfhlopegmfdkpaaNLaw2
import Derived.Test.YtfhlopegmfdkpaaOwns
namespace Go.Proofs.Ytfhlopegmfdkpaa
open Go Go.RowKit
/-- the choices that have been tried before round k -/
def VK (m k : Nat) (v : Int) : Prop := (0 ≤ v ∧ v < k ∧ v < m) ∨ (m < k ∧ v = -1)
theorem vk_start (m : Nat) (v : Int) : ¬ VK m 0 v := by unfold VK; omega
theorem vk_night {m k : Nat} (h : k < m) (v : Int) : VK m (k + 1) v ↔ VK m k v ∨ v = (k : Int) := by unfold VK; omega
theorem vk_none (m : Nat) (v : Int) : VK m (m + 1) v ↔ VK m m v ∨ v = -1 := by unfold VK; omega
theorem vk_before {m k : Nat} (h : k < m) (v : Int) (hv : VK m k v) : 0 ≤ v ∧ ((k : Int) = -1 ∨ v < (k : Int)) := by unfold VK at hv; omega
theorem vk_before' {m : Nat} (v : Int) (hv : VK m m v) : 0 ≤ v ∧ ((-1 : Int) = -1 ∨ v < -1) := by unfold VK at hv; omega
theorem vk_all {C : List (List Int)} {cap P : List Int} {o : Option (List Int)} (h : Tried C cap P (VK cap.length (cap.length + 1)) o) : Tried C cap P (fun v => v = -1 ∨ (0 ≤ v ∧ v < cap.length)) o := by
  have e : VK cap.length (cap.length + 1) = fun v : Int => v = -1 ∨ (0 ≤ v ∧ v < cap.length) := by
    funext v
    unfold VK
    apply propext
    omega
  rw [← e]; exact h
/-- what has been found -/
def OutIs (w : World) (v : Value) : Option (List Int) → Prop
  | none => v = .slice none 0 0
  | some N => ∃ b off c, v = .slice (some ⟨b, off, none⟩) N.length c ∧ Slc intEnc 1 w w.heap.size (some ⟨b, off, none⟩) N
theorem OutIs.on {w w' : World} {v : Value} {o : Option (List Int)} (h : OutIs w v o) (hb : Below w.heap.size w w') : OutIs w' v o := by
  cases o with
  | none => exact h
  | some N =>
    obtain ⟨b, off, c, h1, h2⟩ := h
    exact ⟨b, off, c, h1, h2.on hb⟩
def RBPost (ns : List Nit) (js : List Job) (P : List Int) (w : World) (e : Ending) (w' : World) : Prop :=
  ∃ A c N, e = .returned (.slice A N.length c) ∧ Below w.heap.size w w' ∧ Slc intEnc 1 w' w'.heap.size A N ∧ BestOf (chooseL ns js) (capOf ns) P N
theorem pre_right {js : List Job} {ns : List Nit} {P : List Int} (hl : P.length ≤ js.length) : rightB (js.take P.length) ns P = true ↔ PreOk (chooseL ns js) (capOf ns) P := by
  rw [rightB_iff]
  have e : chooseL ns (js.take P.length) = (chooseL ns js).take P.length := by unfold chooseL; rw [List.map_take]
  rw [e]
  exact ⟨fun h => ⟨by rw [choose_len]; exact hl, h⟩, fun h => h.2⟩
theorem pre_vals {C : List (List Int)} {ns : List Nit} {P : List Int} (h : PreOk C (capOf ns) P) : ∀ v ∈ P, -1 ≤ v ∧ v < ns.length := fun v hv => by
  obtain ⟨i, hi⟩ := List.getElem?_of_mem hv
  have := cap_len ns
  rcases h.2.ok i v hi with h1 | ⟨k, h1, h2, _⟩ <;> omega
theorem refRightPre_n (AJ : Option Addr) (cJ : Nat) (js : List Job) (AN : Option Addr) (cN : Nat) (ns : List Nit) (A : Option Addr) (c : Nat) (pl : List Int) (w : World) {n : Nat} {v : Bool} (hn : pl.length = n) (hv : rightB (js.take pl.length) ns pl = v) (hJ : Slc Job.enc 8 w w.heap.size AJ js) (hN : Slc Nit.enc 8 w w.heap.size AN ns) (hS : Slc intEnc 1 w w.heap.size A pl)
    (hl1 : js.length ≤ 1000) (hl2 : ns.length ≤ 1000) (hpl : pl.length ≤ js.length) (hpb : ∀ v ∈ pl, -1 ≤ v ∧ v < ns.length) :
    Calls Try.prog 61 #[.slice AJ js.length cJ, .slice AN ns.length cN, .slice A n c] w fun e w' => e = .returned (.bool v) ∧ Below w.heap.size w w' := by
  subst hn hv; exact refRightPre_any AJ cJ js AN cN ns A c pl w hJ hN hS hl1 hl2 hpl hpb
theorem pre_vals1 {C : List (List Int)} {ns : List Nit} {P : List Int} {k : Nat} (h : PreOk C (capOf ns) P) (hk : k < ns.length) : ∀ v ∈ P ++ [(k : Int)], -1 ≤ v ∧ v < ns.length := fun v hv => by
  rcases List.mem_append.1 hv with h1 | h1
  · exact pre_vals h v h1
  · rw [List.mem_singleton] at h1; omega
theorem eqnil_none (w : World) : (binOp .eql 26 (.slice none 0 0) (.slice none 0 0)).run Try.prog w = .ok (.bool true) w := by
  simp [binOp, run_equal_slice_nil w _ _ none 0 0 Try.underlying26]
theorem eqnil_some (p : Addr) (n c : Nat) (w : World) : (binOp .eql 26 (.slice (some p) n c) (.slice none 0 0)).run Try.prog w = .ok (.bool false) w := by
  simp [binOp, run_equal_slice_nil w _ _ (some p) n c Try.underlying26]
set_option maxRecDepth 100000 in
set_option maxHeartbeats 4000000 in
theorem refBest_any (AJ : Option Addr) (cJ : Nat) (js : List Job) (AN : Option Addr) (cN : Nat) (ns : List Nit) (hl1 : js.length ≤ 100) (hl2 : ns.length ≤ 100) : ∀ (n : Nat) (P : List Int) (AP : Option Addr) (cP : Nat) (w : World), js.length - P.length = n →
    Slc Job.enc 8 w w.heap.size AJ js → Slc Nit.enc 8 w w.heap.size AN ns → Slc intEnc 1 w w.heap.size AP P → PreOk (chooseL ns js) (capOf ns) P →
    Calls Try.prog 59 #[.slice AJ js.length cJ, .slice AN ns.length cN, .slice AP P.length cP] w (RBPost ns js P w) := by
  intro n
  induction n with
  | zero =>
    intro P AP cP w hn hJ hN hSP hP
    have h1 := hP.1
    rw [choose_len] at h1
    have h2 : P.length = js.length := by omega
    have HB := hide (BestOf.full hP (by rw [choose_len]; exact h2))
    have h3 : ((P.length : Int) == (js.length : Int)) = true := by simp [h2]
    clear hP h1
    go_enter Try.func59, Try.ntmps59
    go_wp2_with fail
    go_ret
    exact ⟨AP, cP, P, rfl, Below.refl _ _, hSP, HB.out⟩
  | succ n ih =>
    intro P AP cP w hn hJ hN hSP hP
    have HPO := hide hP
    have hPl : P.length < js.length := by omega
    have h3 : ((P.length : Int) == (js.length : Int)) = false := by simp; omega
    have IH : Hid (∀ (P' : List Int) (AP : Option Addr) (cP : Nat) (w : World) (m : Nat), P'.length = m → js.length - P'.length = n →
      Slc Job.enc 8 w w.heap.size AJ js → Slc Nit.enc 8 w w.heap.size AN ns → Slc intEnc 1 w w.heap.size AP P' → PreOk (chooseL ns js) (capOf ns) P' →
      Calls Try.prog 59 #[.slice AJ js.length cJ, .slice AN ns.length cN, .slice AP m cP] w (RBPost ns js P' w)) := fun P' AP cP w m hm => by subst hm; exact ih P' AP cP w
    have hB := Below.refl w.heap.size w
    clear ih hP
    go_enter Try.func59, Try.ntmps59
    go_wp2_with fail
    go_loopw [7, 8] (fun o y W => ∃ (k : Nat) (O : Option (List Int)), OutIs W o O ∧ y = .int .i64 k ∧ k ≤ ns.length + 1 ∧ Hid (Tried (chooseL ns js) (capOf ns) P (VK ns.length k) O) ∧ (ns.length < k → O.isSome = true) ∧ Below w.heap.size w W) (fun o y _ => ns.length + 2 - (intOf y).toNat)
    case atStart => exact ⟨0, none, rfl, rfl, Nat.zero_le _, hide (Tried.start (vk_start _)), fun h => absurd h (Nat.not_lt_zero _), hB⟩
    case round =>
      clear hB h3
      obtain ⟨W, rfl⟩ : ∃ W : World, W = wr := ⟨_, rfl⟩
      obtain ⟨k, O, hO, rfl, hk, HT, hOs, hB⟩ := hrel
      by_cases hkn : k < ns.length
      · have hki : (k : Int) < (ns.length : Int) := by omega
        have hkk : ((k : Int) == (ns.length : Int)) = false := by simp; omega
        have hkl : (k : Int) ≤ (ns.length : Int) := by omega
        cases hr : rightB (js.take (P ++ [(k : Int)]).length) ns (P ++ [(k : Int)])
        · have HR := hide hr
          have HT2 := hide (HT.out.skip (vk_night hkn) (fun h => by have := (pre_right (js := js) (by simp; omega)).2 h; rw [hr] at this; cases this) (by rw [choose_len]; exact hPl))
          clear hr
          have hal := (Below.refl W.heap.size W).alloc (Nat.le_refl _) (.cells #[] 3)
          have HSP := hSP.on hB
          go_upto_region 11 with (first | (at_builtin; refine wpList_app_own _ _ rfl rfl et_ints (Own.empty_ (f := intEnc) (sz := 1) (Blk.new W 3 #[]) (Nat.le_refl W.heap.size)) rfl rfl (HSP.below hal) rfl (fun _ => rfl) intEnc_one (by simp only [List.length_nil, Nat.zero_add]; omega) hal.size ?_; intro v7 W2 o7 hb7 hgr7; rw [List.nil_append] at o7) | (at_builtin; refine wpList_app _ _ rfl rfl et_ints o7 rfl rfl (y := (k : Int)) rfl rfl rfl (by omega) ((hal.trans hb7).size) ?_; intro v8 W3 o8 hb8 hgt8))
          obtain ⟨A8, c8, rfl, S8⟩ := o8.form (fun _ => rfl)
          obtain ⟨Q, hQ⟩ : ∃ Q, Q = P ++ [(k : Int)] := ⟨_, rfl⟩
          have HQ : Hid (Q.length = P.length + 1 ∧ Q = P ++ [(k : Int)]) := ⟨by rw [hQ]; simp, hQ⟩
          rw [← hQ] at S8
          rw [show (P ++ [((k : Int) : Int)]).length = P.length + 1 by simp]
          clear hQ
          have hbT := (hal.trans hb7).trans hb8
          replace hB := hB.trans (hbT.mono hB.size)
          replace hO := hO.on hbT
          clear hal HSP hb7 hgr7 o7 o8 hb8 hgt8 hbT
          obtain ⟨W, rfl⟩ : ∃ W : World, W = W3 := ⟨_, rfl⟩
          go_wp2_with fail
          refine (refRightPre_n AJ cJ js AN cN ns A8 c8 Q _ (v := false) HQ.out.1 (by rw [HQ.out.2, HR.out]) (hJ.on hB) (hN.on hB) S8 (by omega) (by omega) (by have := HQ.out.1; omega) (by rw [HQ.out.2]; exact pre_vals1 HPO.out hkn)).mono ?_
          rintro e W ⟨rfl, hb⟩
          replace hO := OutIs.on hO hb
          replace S8 := Slc.on S8 hb
          replace hB := hB.trans (hb.mono hB.size)
          clear hb
          go_wp2_with fail
          go_roundw
          case rel => exact ⟨_, O, hO, by go_num, by omega, HT2, fun h => absurd h (by omega), hB⟩
          case measure => simp [intOf]; omega
        · have HR := hide hr
          have HP8 := hide ((pre_right (js := js) (by simp; omega)).1 hr)
          clear hr
          have hal := (Below.refl W.heap.size W).alloc (Nat.le_refl _) (.cells #[] 3)
          have HSP := hSP.on hB
          go_upto_region 11 with (first | (at_builtin; refine wpList_app_own _ _ rfl rfl et_ints (Own.empty_ (f := intEnc) (sz := 1) (Blk.new W 3 #[]) (Nat.le_refl W.heap.size)) rfl rfl (HSP.below hal) rfl (fun _ => rfl) intEnc_one (by simp only [List.length_nil, Nat.zero_add]; omega) hal.size ?_; intro v7 W2 o7 hb7 hgr7; rw [List.nil_append] at o7) | (at_builtin; refine wpList_app _ _ rfl rfl et_ints o7 rfl rfl (y := (k : Int)) rfl rfl rfl (by omega) ((hal.trans hb7).size) ?_; intro v8 W3 o8 hb8 hgt8))
          obtain ⟨A8, c8, rfl, S8⟩ := o8.form (fun _ => rfl)
          obtain ⟨Q, hQ⟩ : ∃ Q, Q = P ++ [(k : Int)] := ⟨_, rfl⟩
          have HQ : Hid (Q.length = P.length + 1 ∧ Q = P ++ [(k : Int)]) := ⟨by rw [hQ]; simp, hQ⟩
          rw [← hQ] at S8
          rw [show (P ++ [((k : Int) : Int)]).length = P.length + 1 by simp]
          clear hQ
          have hbT := (hal.trans hb7).trans hb8
          replace hB := hB.trans (hbT.mono hB.size)
          replace hO := hO.on hbT
          clear hal HSP hb7 hgr7 o7 o8 hb8 hgt8 hbT
          obtain ⟨W, rfl⟩ : ∃ W : World, W = W3 := ⟨_, rfl⟩
          go_wp2_with fail
          refine (refRightPre_n AJ cJ js AN cN ns A8 c8 Q _ (v := true) HQ.out.1 (by rw [HQ.out.2, HR.out]) (hJ.on hB) (hN.on hB) S8 (by omega) (by omega) (by have := HQ.out.1; omega) (by rw [HQ.out.2]; exact pre_vals1 HPO.out hkn)).mono ?_
          rintro e W ⟨rfl, hb⟩
          replace hO := OutIs.on hO hb
          replace S8 := Slc.on S8 hb
          replace hB := hB.trans (hb.mono hB.size)
          clear hb
          go_wp2_with fail
          refine (IH.out Q _ c8 _ _ HQ.out.1 (by have := HQ.out.1; omega) (hJ.on hB) (hN.on hB) S8 (by rw [HQ.out.2]; exact HP8.out)).mono ?_
          rintro e W ⟨A9, c9, F, rfl, hb, S9, hF⟩
          replace hO := OutIs.on hO hb
          replace S8 := Slc.on S8 hb
          replace hB := hB.trans (hb.mono hB.size)
          clear hb
          rw [HQ.out.2] at hF
          have HF := hide hF
          have hFl : F.length = js.length := by rw [hF.pl.len, choose_len]
          have hF9 : F.length ≤ 1000 := by omega
          have hFn : F ≠ [] := by rintro rfl; simp at hFl; omega
          obtain ⟨b9, off9, rfl⟩ : ∃ b off, A9 = some ⟨b, off, none⟩ := by
            obtain ⟨x0, hx0⟩ : ∃ x0, F[0]? = some x0 := ⟨_, List.getElem?_eq_getElem (by have := List.length_pos_iff.2 hFn; omega)⟩
            obtain ⟨b, off, h1, _⟩ := S9 0 x0 hx0
            exact ⟨b, off, h1⟩
          clear hF S8 hFl hFn
          cases O with
          | none =>
            obtain rfl : u7 = .slice none 0 0 := hO
            have HT2 := hide (HT.out.first (vk_night hkn) HF.out)
            have eqn := eqnil_none
            go_wp2_with fail
            go_roundw
            case rel => exact ⟨_, some F, ⟨b9, off9, c9, rfl, S9⟩, by go_num, by omega, HT2, fun _ => rfl, hB⟩
            case measure => simp [intOf]; try omega
          | some N =>
            obtain ⟨b7, off7, c7, rfl, S7⟩ := hO
            have eqn := eqnil_some ⟨b7, off7, none⟩ N.length c7
            have hNl : N.length ≤ 1000 := by
              obtain ⟨v, _, h2, _⟩ := HT.out
              have := h2.pl.len
              rw [choose_len] at this
              omega
            by_cases hd : doneN N < doneN F
            · have HT2 := hide (HT.out.more (vk_night hkn) HF.out hd)
              have hd' : (doneN N : Int) < (doneN F : Int) := by omega
              go_wp2_with fail
              refine (refDone0_any _ c9 F _ S9 hF9).mono ?_
              rintro e W4 ⟨rfl, hb⟩
              have hB4 := hB.trans (hb.mono hB.size)
              have S79 := S7.on hb
              have S99 := S9.on hb
              clear hb
              go_wp2_with fail
              refine (refDone0_any _ c7 N _ S79 hNl).mono ?_
              rintro e W5 ⟨rfl, hb⟩
              have hB5 := hB4.trans (hb.mono hB4.size)
              have S95 := S99.on hb
              clear hb
              go_wp2_with fail
              go_roundw
              case rel => exact ⟨_, some F, ⟨b9, off9, c9, rfl, S95⟩, by go_num, by omega, HT2, fun _ => rfl, hB5⟩
              case measure => simp [intOf]; try omega
            · have HT2 := hide (HT.out.less (vk_night hkn) (vk_before hkn) HF.out hd)
              have hd' : ¬ (doneN N : Int) < (doneN F : Int) := by omega
              go_wp2_with fail
              refine (refDone0_any _ c9 F _ S9 hF9).mono ?_
              rintro e W4 ⟨rfl, hb⟩
              have hB4 := hB.trans (hb.mono hB.size)
              have S79 := S7.on hb
              clear hb
              go_wp2_with fail
              refine (refDone0_any _ c7 N _ S79 hNl).mono ?_
              rintro e W5 ⟨rfl, hb⟩
              have hB5 := hB4.trans (hb.mono hB4.size)
              have S75 := S79.on hb
              clear hb
              go_wp2_with fail
              go_roundw
              case rel => exact ⟨_, some N, ⟨b7, off7, c7, rfl, S75⟩, by go_num, by omega, HT2, fun _ => rfl, hB5⟩
              case measure => simp [intOf]; try omega
      · obtain ⟨rfl⟩ | hk2 : k = ns.length ∨ k = ns.length + 1 := by omega
        · have hkl : (ns.length : Int) ≤ (ns.length : Int) := by omega
          have HP8 := hide (HPO.out.none_ (by rw [choose_len]; exact hPl))
          clear hkn
          have hal := (Below.refl W.heap.size W).alloc (Nat.le_refl _) (.cells #[] 3)
          have HSP := hSP.on hB
          go_upto_region 11 with (first | (at_builtin; refine wpList_app_own _ _ rfl rfl et_ints (Own.empty_ (f := intEnc) (sz := 1) (Blk.new W 3 #[]) (Nat.le_refl W.heap.size)) rfl rfl (HSP.below hal) rfl (fun _ => rfl) intEnc_one (by simp only [List.length_nil, Nat.zero_add]; omega) hal.size ?_; intro v7 W2 o7 hb7 hgr7; rw [List.nil_append] at o7) | (at_builtin; refine wpList_app _ _ rfl rfl et_ints o7 rfl rfl (y := (-1)) rfl rfl rfl (by omega) ((hal.trans hb7).size) ?_; intro v8 W3 o8 hb8 hgt8))
          obtain ⟨A8, c8, rfl, S8⟩ := o8.form (fun _ => rfl)
          obtain ⟨Q, hQ⟩ : ∃ Q, Q = P ++ [(-1)] := ⟨_, rfl⟩
          have HQ : Hid (Q.length = P.length + 1 ∧ Q = P ++ [(-1)]) := ⟨by rw [hQ]; simp, hQ⟩
          rw [← hQ] at S8
          rw [show (P ++ [((-1) : Int)]).length = P.length + 1 by simp]
          clear hQ
          have hbT := (hal.trans hb7).trans hb8
          replace hB := hB.trans (hbT.mono hB.size)
          replace hO := hO.on hbT
          clear hal HSP hb7 hgr7 o7 o8 hb8 hgt8 hbT
          obtain ⟨W, rfl⟩ : ∃ W : World, W = W3 := ⟨_, rfl⟩
          go_wp2_with fail
          refine (IH.out Q _ c8 _ _ HQ.out.1 (by have := HQ.out.1; omega) (hJ.on hB) (hN.on hB) S8 (by rw [HQ.out.2]; exact HP8.out)).mono ?_
          rintro e W ⟨A9, c9, F, rfl, hb, S9, hF⟩
          replace hO := OutIs.on hO hb
          replace S8 := Slc.on S8 hb
          replace hB := hB.trans (hb.mono hB.size)
          clear hb
          rw [HQ.out.2] at hF
          have HF := hide hF
          have hFl : F.length = js.length := by rw [hF.pl.len, choose_len]
          have hF9 : F.length ≤ 1000 := by omega
          have hFn : F ≠ [] := by rintro rfl; simp at hFl; omega
          obtain ⟨b9, off9, rfl⟩ : ∃ b off, A9 = some ⟨b, off, none⟩ := by
            obtain ⟨x0, hx0⟩ : ∃ x0, F[0]? = some x0 := ⟨_, List.getElem?_eq_getElem (by have := List.length_pos_iff.2 hFn; omega)⟩
            obtain ⟨b, off, h1, _⟩ := S9 0 x0 hx0
            exact ⟨b, off, h1⟩
          clear hF S8 hFl hFn
          cases O with
          | none =>
            obtain rfl : u7 = .slice none 0 0 := hO
            have HT2 := hide (HT.out.first (vk_none _) HF.out)
            have eqn := eqnil_none
            go_wp2_with fail
            go_roundw
            case rel => exact ⟨_, some F, ⟨b9, off9, c9, rfl, S9⟩, by go_num, by omega, HT2, fun _ => rfl, hB⟩
            case measure => simp [intOf]; try omega
          | some N =>
            obtain ⟨b7, off7, c7, rfl, S7⟩ := hO
            have eqn := eqnil_some ⟨b7, off7, none⟩ N.length c7
            have hNl : N.length ≤ 1000 := by
              obtain ⟨v, _, h2, _⟩ := HT.out
              have := h2.pl.len
              rw [choose_len] at this
              omega
            by_cases hd : doneN N < doneN F
            · have HT2 := hide (HT.out.more (vk_none _) HF.out hd)
              have hd' : (doneN N : Int) < (doneN F : Int) := by omega
              go_wp2_with fail
              refine (refDone0_any _ c9 F _ S9 hF9).mono ?_
              rintro e W4 ⟨rfl, hb⟩
              have hB4 := hB.trans (hb.mono hB.size)
              have S79 := S7.on hb
              have S99 := S9.on hb
              clear hb
              go_wp2_with fail
              refine (refDone0_any _ c7 N _ S79 hNl).mono ?_
              rintro e W5 ⟨rfl, hb⟩
              have hB5 := hB4.trans (hb.mono hB4.size)
              have S95 := S99.on hb
              clear hb
              go_wp2_with fail
              go_roundw
              case rel => exact ⟨_, some F, ⟨b9, off9, c9, rfl, S95⟩, by go_num, by omega, HT2, fun _ => rfl, hB5⟩
              case measure => simp [intOf]; try omega
            · have HT2 := hide (HT.out.less (vk_none _) (fun v hv => vk_before' v hv) HF.out hd)
              have hd' : ¬ (doneN N : Int) < (doneN F : Int) := by omega
              go_wp2_with fail
              refine (refDone0_any _ c9 F _ S9 hF9).mono ?_
              rintro e W4 ⟨rfl, hb⟩
              have hB4 := hB.trans (hb.mono hB.size)
              have S79 := S7.on hb
              clear hb
              go_wp2_with fail
              refine (refDone0_any _ c7 N _ S79 hNl).mono ?_
              rintro e W5 ⟨rfl, hb⟩
              have hB5 := hB4.trans (hb.mono hB4.size)
              have S75 := S79.on hb
              clear hb
              go_wp2_with fail
              go_roundw
              case rel => exact ⟨_, some N, ⟨b7, off7, c7, rfl, S75⟩, by go_num, by omega, HT2, fun _ => rfl, hB5⟩
              case measure => simp [intOf]; try omega
        · subst hk2
          have hkl : ¬ ((ns.length + 1 : Nat) : Int) ≤ (ns.length : Int) := by omega
          have HT2 := HT.out
          rw [← cap_len ns] at HT2
          replace HT2 := vk_all HT2
          cases O with
          | none =>
            have := hOs (by omega)
            cases this
          | some N =>
            have HBo := hide (HT2.done (by rw [choose_len]; exact hPl))
            obtain ⟨b7, off7, c7, rfl, S7⟩ := hO
            go_wp2_with fail
            go_ret
            exact ⟨_, c7, N, rfl, hB, S7, HBo.out⟩
end Go.Proofs.Ytfhlopegmfdkpaa
