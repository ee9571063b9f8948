/- checked and wrong: the errors of jobs and nights. -/
import Derived.Test.YtkcfalehebacpaaNChoose
namespace Go.Proofs.Ytkcfalehebacpaa
open Go Go.RowKit
def seenL (js : List Job) : List Int := (js.map Job.n).reverse
theorem seenL_nil : seenL [] = [] := rfl
theorem seenL_snoc {js : List Job} {i : Nat} {j : Job} (h : js[i]? = some j) : seenL (js.take (i + 1)) = j.n :: seenL (js.take i) := by
  unfold seenL
  rw [List.take_add_one, h, List.map_append, List.reverse_append]; rfl
def seenM (js : List Job) : List (Int × Value) := js.map fun j => (j.n, .bool true)
theorem seenM_snoc {js : List Job} {i : Nat} {j : Job} (h : js[i]? = some j) : seenM (js.take (i + 1)) = seenM (js.take i) ++ [(j.n, .bool true)] := by
  unfold seenM
  rw [List.take_add_one, h, List.map_append]; rfl
theorem look_seen_no {js : List Job} {n : Int} (h : (seenL js).contains n = false) : look (seenM js) n = none := look_none fun p hp he => by
  unfold seenM at hp
  obtain ⟨j, hj, rfl⟩ := List.mem_map.1 hp
  have : n ∈ seenL js := by
    unfold seenL
    rw [List.mem_reverse]
    exact List.mem_map.2 ⟨j, hj, he⟩
  rw [List.contains_eq_mem, decide_eq_false_iff_not] at h
  exact h this
theorem look_seen_yes {js : List Job} {n : Int} (h : (seenL js).contains n = true) (hn : ((seenM js).map (·.1)).Nodup) : look (seenM js) n = some (.bool true) := by
  refine look_mem hn ?_
  rw [List.contains_eq_mem, decide_eq_true_iff] at h
  unfold seenL at h
  rw [List.mem_reverse] at h
  obtain ⟨j, hj, rfl⟩ := List.mem_map.1 h
  exact List.mem_map.2 ⟨j, hj, rfl⟩
theorem put_seen {js : List Job} {i : Nat} {j : Job} (hj : js[i]? = some j) (h : (seenL (js.take i)).contains j.n = false) : put (seenM (js.take i)) j.n (.bool true) = seenM (js.take (i + 1)) := by
  unfold put
  rw [look_seen_no h, seenM_snoc hj]; rfl
theorem jobsOk_drop {js : List Job} {i : Nat} {j : Job} (hj : js[i]? = some j) : jobsOk (seenL (js.take i)) (js.drop i) = (jobOk j && !(seenL (js.take i)).contains j.n && jobsOk (seenL (js.take (i + 1))) (js.drop (i + 1))) := by
  obtain ⟨hi, he⟩ := List.getElem?_eq_some_iff.1 hj
  rw [List.drop_eq_getElem_cons hi, he, seenL_snoc hj]; rfl
theorem jobsOk_end (js : List Job) : jobsOk (seenL js) (js.drop js.length) = true := by rw [List.drop_length]; rfl
theorem wrong_jobs {js : List Job} {ns : List Nit} (h : jobsOk [] js = false) : wrongF js ns = 80 := by unfold wrongF; rw [h]; rfl
theorem wrong_many {js : List Job} {ns : List Nit} (h : 60 < js.length) : wrongF js ns = 80 := by
  unfold wrongF
  rw [decide_eq_true h, Bool.or_true]; rfl
theorem wrong_nights {js : List Job} {ns : List Nit} (h1 : jobsOk [] js = true) (h2 : ¬ 60 < js.length) (h3 : 60 < ns.length ∨ (ns.any fun n => !nitOk n) = true) : wrongF js ns = 81 := by
  unfold wrongF
  rw [h1, decide_eq_false h2]
  rcases h3 with h3 | h3
  · rw [decide_eq_true h3]; rfl
  · rw [h3]; simp
theorem wrong_ok {js : List Job} {ns : List Nit} (h1 : jobsOk [] js = true) (h2 : ¬ 60 < js.length) (h3 : ¬ 60 < ns.length) (h4 : (ns.any fun n => !nitOk n) = false) : wrongF js ns = 0 := by
  unfold wrongF
  rw [h1, decide_eq_false h2, decide_eq_false h3, h4]; rfl
def IxPost (bad : Bool) (w : World) (e : Ending) (w' : World) : Prop := ∃ r : Int, e = .returned (.int .i64 r) ∧ decide (0 ≤ r) = bad ∧ Below w.heap.size w w'
theorem any_drop {α : Type} {f : α → Bool} {l : List α} {k : Nat} {x : α} (h : l[k]? = some x) : (l.drop k).any f = (f x || (l.drop (k + 1)).any f) := by
  obtain ⟨hk, he⟩ := List.getElem?_eq_some_iff.1 h
  rw [List.drop_eq_getElem_cons hk, he]; rfl
set_option maxHeartbeats 1000000 in
theorem indexNit_any (A : Option Addr) (c : Nat) (l : List Nit) (w : World) (hlen : l.length ≤ 1000) (hS : Slc Nit.enc 8 w w.heap.size A l) :
    Calls Try.prog 84 #[.slice A l.length c, .func (.func 61) #[] #[]] w (IxPost (l.any fun x => !nitOk x) w) := by
  go_enter Try.func84, Try.ntmps84
  go_wp2_with fail
  go_loopw [8] (fun i wr => ∃ k : Nat, k ≤ l.length ∧ i = .int .i64 k ∧ Hid ((l.any fun x => !nitOk x) = (l.drop k).any (fun x => !nitOk x)) ∧ Below w.heap.size w wr) (fun i _ => l.length - (intOf i).toNat)
  case atStart => exact ⟨0, Nat.zero_le _, rfl, hide rfl, Below.refl _ _⟩
  case round =>
    obtain ⟨k, hk, rfl, HS, hbel⟩ := hrel
    by_cases hlt : k < l.length
    · obtain ⟨x, b, off, hx, hA, hb, hcn⟩ := nitc_at (hS.below hbel) hlt
      have hki : (k : Int) < (l.length : Int) := by omega
      subst hA
      have HX := hide hx
      have d0 := hcn 0 _ rfl
      rw [Nat.add_zero] at d0
      have d1 := hcn 1 _ rfl
      have d2 := hcn 2 _ rfl
      have d3 := hcn 3 _ rfl
      have d4 := hcn 4 _ rfl
      have d5 := hcn 5 _ rfl
      have d6 := hcn 6 _ rfl
      have d7 := hcn 7 _ rfl
      clear hcn
      clear hx
      go_wp2_with fail
      refine (checked1_any x _).mono ?_
      rintro e w2 ⟨rfl, hb2⟩
      clear d0 d1 d2 d3 d4 d5 d6 d7
      cases hok : nitOk x
      · go_wp2_with fail
        go_ret
        exact ⟨k, rfl, by rw [HS.out, any_drop HX.out, hok]; simp, hbel.trans (hb2.mono hbel.size)⟩
      · go_wp2_with fail
        go_roundw
        case rel => exact ⟨k + 1, by omega, by go_num, hide (by rw [HS.out, any_drop HX.out, hok]; rfl), hbel.trans (hb2.mono hbel.size)⟩
        case measure => simp [intOf]; omega
    · obtain rfl : k = l.length := by omega
      go_wp2_with fail
      go_ret
      exact ⟨-1, rfl, by rw [HS.out, List.drop_length]; rfl, hbel⟩
theorem containsNit_any (A : Option Addr) (c : Nat) (l : List Nit) (w : World) (hlen : l.length ≤ 1000) (hS : Slc Nit.enc 8 w w.heap.size A l) :
    Calls Try.prog 60 #[.slice A l.length c, .func (.func 61) #[] #[]] w fun e w' => e = .returned (.bool (l.any fun x => !nitOk x)) ∧ Below w.heap.size w w' := by
  go_enter Try.func60, Try.ntmps60
  go_wp2_with fail
  refine (indexNit_any A c l _ hlen hS).mono ?_
  rintro e w2 ⟨r, rfl, hr, hb2⟩
  have HR := hide hr
  clear hr
  go_wp2
  go_ret
  exact ⟨ret_bool HR.out, hb2⟩
theorem run_makeMap_hint {P : Program} {t k e : TypeId} (ht : P.underlying t = some (.map k e)) (n : Int) (w : World) : (Instr.makeMap t (some (.int .i64 n))).run P w = .ok (.map (some w.heap.size)) (w.alloc (.map #[] 0)) := by
  simp [Instr.makeMap, run_underlying ht, asInt, asIntOf, Result.andThen]
set_option maxRecDepth 100000 in
set_option maxHeartbeats 4000000 in
theorem checked_any (AJ : Option Addr) (cJ : Nat) (js : List Job) (AN : Option Addr) (cN : Nat) (ns : List Nit) (w : World) (hJ : Slc Job.enc 8 w w.heap.size AJ js) (hN : Slc Nit.enc 8 w w.heap.size AN ns) (hl1 : js.length ≤ 1000) (hl2 : ns.length ≤ 1000) :
    Calls Try.prog 25 #[.slice AJ js.length cJ, .slice AN ns.length cN] w fun e w' => e = .returned (.int .i64 (wrongF js ns)) ∧ Below w.heap.size w w' := by
  have hm := MapOf.new w
  have hmk := fun w => run_makeMap_hint (P := Try.prog) (t := 122) Try.underlying122 (js.length : Int) w
  have hB := (Below.refl w.heap.size w).alloc (Nat.le_refl _) (.map #[] 0)
  go_enter Try.func25, Try.ntmps25
  go_wp2_with fail
  clear hmk
  generalize w.alloc (.map #[] 0) = W at *
  go_loopw [13] (fun y W => ∃ (i : Nat), y = .int .i64 i ∧ i ≤ js.length ∧ Hid (jobsOk [] js = jobsOk (seenL (js.take i)) (js.drop i)) ∧ MapOf W w.heap.size (seenM (js.take i)) ∧ Below w.heap.size w W) (fun y _ => js.length - (intOf y).toNat)
  case atStart => exact ⟨0, rfl, Nat.zero_le _, hide rfl, hm, hB⟩
  case round =>
    clear hm hB
    obtain ⟨W, rfl⟩ : ∃ W : World, W = wr := ⟨_, rfl⟩
    obtain ⟨i, rfl, hi, HS, hm, hB⟩ := hrel
    by_cases hlt : i < js.length
    · obtain ⟨x, b, off, hx, hA, hb0, hcn⟩ := job_at (hJ.below hB) hlt
      have hji : (i : Int) < (js.length : Int) := by omega
      have HX := hide hx
      have d0 := hcn 0 _ rfl
      rw [Nat.add_zero] at d0
      have d1 := hcn 1 _ rfl
      have d2 := hcn 2 _ rfl
      have d3 := hcn 3 _ rfl
      have d4 := hcn 4 _ rfl
      have d5 := hcn 5 _ rfl
      have d6 := hcn 6 _ rfl
      have d7 := hcn 7 _ rfl
      clear hcn
      clear hx
      subst hA
      go_upto_region 5 with fail
      have hx := Blk.new W 67 #[.int .i64 x.n, .int .i64 x.road, .int .i64 x.chain, .int .i64 x.first, .int .i64 x.last, .int .i64 x.crew, .bool x.dry, .bool x.warm]
      replace hm := hm.below ((Below.refl _ W).alloc (Nat.le_refl _) (.cells #[.int .i64 x.n, .int .i64 x.road, .int .i64 x.chain, .int .i64 x.first, .int .i64 x.last, .int .i64 x.crew, .bool x.dry, .bool x.warm] 67)) hm.lt
      have hsz_bx : (W.alloc (.cells #[.int .i64 x.n, .int .i64 x.road, .int .i64 x.chain, .int .i64 x.first, .int .i64 x.last, .int .i64 x.crew, .bool x.dry, .bool x.warm] 67)).heap.size = W.heap.size + 1 := by simp
      have bxge := hB.size
      replace hB := hB.alloc hB.size (.cells #[.int .i64 x.n, .int .i64 x.road, .int .i64 x.chain, .int .i64 x.first, .int .i64 x.last, .int .i64 x.crew, .bool x.dry, .bool x.warm] 67)
      generalize hbx : W.heap.size = bx at *
      generalize W.alloc (.cells #[.int .i64 x.n, .int .i64 x.road, .int .i64 x.chain, .int .i64 x.first, .int .i64 x.last, .int .i64 x.crew, .bool x.dry, .bool x.warm] 67) = W at *
      clear hbx
      have q0 := hx.cell_ 0 rfl
      have q1 := hx.cell_ 1 rfl
      have q2 := hx.cell_ 2 rfl
      have q3 := hx.cell_ 3 rfl
      have q4 := hx.cell_ 4 rfl
      have q5 := hx.cell_ 5 rfl
      have q6 := hx.cell_ 6 rfl
      have q7 := hx.cell_ 7 rfl
      clear d0 d1 d2 d3 d4 d5 d6 d7 hsz_bx
      go_wp2_with fail
      refine (validJob_any x _).mono ?_
      rintro e W ⟨rfl, hb⟩
      clear q0 q1 q2 q3 q4 q5 q6 q7
      replace hm := hm.below hb hm.lt
      replace hx := hx.below hb hx.lt
      replace hB := hB.trans (hb.mono hB.size)
      clear hb
      have q0 := hx.cell_ 0 rfl
      have q1 := hx.cell_ 1 rfl
      have q2 := hx.cell_ 2 rfl
      have q3 := hx.cell_ 3 rfl
      have q4 := hx.cell_ 4 rfl
      have q5 := hx.cell_ 5 rfl
      have q6 := hx.cell_ 6 rfl
      have q7 := hx.cell_ 7 rfl
      cases hok : jobOk x
      case false =>
        have HV : Hid (wrongF js ns = 80) := wrong_jobs (by rw [HS.out, jobsOk_drop HX.out, hok]; rfl)
        clear hok
        go_wp2_with fail
        go_ret
        exact ⟨ret_int HV.out.symm, hB⟩
      case true =>
        have HM := hide hm
        cases hc : (seenL (js.take i)).contains x.n
        case true =>
          have HV : Hid (wrongF js ns = 80) := wrong_jobs (by rw [HS.out, jobsOk_drop HX.out, hok, hc]; rfl)
          have hlk : (Instr.lookup 122 (.map (some w.heap.size)) (.int .i64 x.n) false).run Try.prog W = .ok (.bool true) W := by
            have := HM.out.look_yes (P := Try.prog) Try.underlying122 Try.underlying3 (look_seen_yes hc HM.out.nodup) false
            simpa using this
          clear hok hc hm
          go_wp2_with fail
          go_ret
          exact ⟨ret_int HV.out.symm, hB⟩
        case false =>
          have hlk : (Instr.lookup 122 (.map (some w.heap.size)) (.int .i64 x.n) false).run Try.prog W = .ok (.bool false) W := by
            have := HM.out.look_no (P := Try.prog) (z := .bool false) Try.underlying122 Try.underlying3 (fun w => by kernel_rfl) (look_seen_no hc) false
            simpa using this
          have HP := hide (put_seen HX.out hc)
          have HS2 : Hid (jobsOk [] js = jobsOk (seenL (js.take (i + 1))) (js.drop (i + 1))) := by show _ = _; rw [HS.out, jobsOk_drop HX.out, hok, hc]; rfl
          clear hok hc
          go_wp2_with (refine wpList_put_im rfl rfl _ _ _ _ rfl _ _ Try.underlying122 Try.underlying3 w.heap.size rfl hm x.n (.bool true) rfl rfl ?_; intro W3 hm3 hg3)
          have hB3 : Below w.heap.size w W3 := hB.grown hg3 hB.size (fun q hq => by injection hq with hq; omega)
          rw [HP.out] at hm3
          clear hm HM hlk hg3
          go_roundw
          case rel => exact ⟨i + 1, by go_num, by omega, HS2, hm3, hB3⟩
          case measure => simp [intOf]; omega
    · obtain rfl : i = js.length := by omega
      have HJ : Hid (jobsOk [] js = true) := by show _ = _; rw [HS.out, List.take_length]; exact jobsOk_end js
      clear hm
      by_cases h1 : 60 < js.length
      · have HV : Hid (wrongF js ns = 80) := wrong_many h1
        have h1' : (60 : Int) < (js.length : Int) := by omega
        go_wp2_with fail
        go_ret
        exact ⟨ret_int HV.out.symm, hB⟩
      · have h1' : ¬ (60 : Int) < (js.length : Int) := by omega
        by_cases h2 : 60 < ns.length
        · have HV : Hid (wrongF js ns = 81) := wrong_nights HJ.out h1 (.inl h2)
          have h2' : (60 : Int) < (ns.length : Int) := by omega
          go_wp2_with fail
          go_ret
          exact ⟨ret_int HV.out.symm, hB⟩
        · have h2' : ¬ (60 : Int) < (ns.length : Int) := by omega
          go_wp2_with fail
          refine (containsNit_any _ _ ns _ hl2 (hN.below hB |>.more hB.size)).mono ?_
          rintro e W ⟨rfl, hb⟩
          replace hB := hB.trans (hb.mono hB.size)
          clear hb
          cases ha : ns.any fun x => !nitOk x
          · have HV : Hid (wrongF js ns = 0) := wrong_ok HJ.out h1 h2 ha
            clear ha
            go_wp2_with fail
            go_ret
            exact ⟨ret_int HV.out.symm, hB⟩
          · have HV : Hid (wrongF js ns = 81) := wrong_nights HJ.out h1 (.inr ha)
            clear ha
            go_wp2_with fail
            go_ret
            exact ⟨ret_int HV.out.symm, hB⟩
end Go.Proofs.Ytkcfalehebacpaa
