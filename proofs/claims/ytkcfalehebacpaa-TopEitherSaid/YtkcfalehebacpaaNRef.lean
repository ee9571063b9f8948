/- The reference's errors of jobs and nights, lists of jobs, places; Wide: the walks. -/
import Derived.Test.YtkcfalehebacpaaNBoundP
namespace Go.Proofs.Ytkcfalehebacpaa
open Go Go.RowKit
theorem seen_no {js : List Job} {i : Nat} {n : Int} (h : ∀ k, k < i → ∀ x, js[k]? = some x → x.n ≠ n) : (seenL (js.take i)).contains n = false := by
  rw [List.contains_eq_mem, decide_eq_false_iff_not]
  unfold seenL
  rw [List.mem_reverse]
  intro hm
  obtain ⟨x, hx, he⟩ := List.mem_map.1 hm
  obtain ⟨k, hk⟩ := List.getElem?_of_mem hx
  rw [List.getElem?_take] at hk
  split at hk
  · rename_i hlt; exact h k hlt x hk he
  · cases hk
theorem seen_yes {js : List Job} {i k : Nat} {x : Job} (hk : k < i) (hx : js[k]? = some x) : (seenL (js.take i)).contains x.n = true := by
  rw [List.contains_eq_mem, decide_eq_true_iff]
  unfold seenL
  rw [List.mem_reverse]
  refine List.mem_map.2 ⟨x, List.mem_of_getElem? (i := k) ?_, rfl⟩
  rw [List.getElem?_take, if_pos hk]; exact hx
set_option maxRecDepth 100000 in
set_option maxHeartbeats 4000000 in
theorem refWrong_any (AJ : Option Addr) (cJ : Nat) (js : List Job) (AN : Option Addr) (cN : Nat) (ns : List Nit) (w : World) (hJ : Slc Job.enc 8 w w.heap.size AJ js) (hN : Slc Nit.enc 8 w w.heap.size AN ns) (hl1 : js.length ≤ 1000) (hl2 : ns.length ≤ 1000) :
    Calls Try.prog 23 #[.slice AJ js.length cJ, .slice AN ns.length cN] w fun e w' => e = .returned (.int .i64 (wrongF js ns)) ∧ Below w.heap.size w w' := by
  have hB := Below.refl w.heap.size w
  obtain ⟨W, hWw⟩ : ∃ W : World, W = w := ⟨_, rfl⟩
  by_cases h1 : 60 < js.length
  · have HV : Hid (wrongF js ns = 80) := wrong_many h1
    have h1' : (60 : Int) < (js.length : Int) := by omega
    go_enter Try.func23, Try.ntmps23
    go_wp2_with fail
    go_ret
    exact ⟨ret_int HV.out.symm, hB⟩
  · have h1' : ¬ (60 : Int) < (js.length : Int) := by omega
    go_enter Try.func23, Try.ntmps23
    go_wp2_with fail
    go_loopw [5] (fun y W => ∃ (i : Nat), y = .int .i64 i ∧ i ≤ js.length ∧ Hid (jobsOk [] js = jobsOk (seenL (js.take i)) (js.drop i)) ∧ Below w.heap.size w W) (fun y _ => js.length - (intOf y).toNat)
    case atStart => exact ⟨0, rfl, Nat.zero_le _, hide rfl, hB⟩
    case round =>
      clear hB hWw
      clear W
      obtain ⟨W, rfl⟩ : ∃ W : World, W = wr := ⟨_, rfl⟩
      obtain ⟨i, rfl, hi, HS, hB⟩ := hrel
      by_cases hlt : i < js.length
      · obtain ⟨x, b, off, hx, hA, hb0, hcn⟩ := job_at (hJ.below hB) hlt
        have hji : (i : Int) < (js.length : Int) := by omega
        have HX := hide hx
        have d0 := hcn 0 _ rfl
        rw [Nat.add_zero] at d0
        have d1 := hcn 1 _ rfl
        have d2 := hcn 2 _ rfl
        have d3 := hcn 3 _ rfl
        have d4 := hcn 4 _ rfl
        have d5 := hcn 5 _ rfl
        have d6 := hcn 6 _ rfl
        have d7 := hcn 7 _ rfl
        clear hcn
        clear hx
        subst hA
        have e0 := d0
        go_wp2_with fail
        refine (refJob_any x _).mono ?_
        rintro e W ⟨rfl, hb⟩
        replace hB := hB.trans (hb.mono hB.size)
        clear hb
        replace e0 : W.cell? ⟨b, off + i * 8, none⟩ = some (.int .i64 x.n) := by
          obtain ⟨y, b', off', hy, hA', _, hcn'⟩ := job_at (hJ.below hB) hlt
          obtain ⟨rfl, rfl⟩ : b = b' ∧ off = off' := by simpa using hA'
          have := HX.out
          rw [hy] at this
          injection this with this
          subst this
          exact hcn' 0 _ rfl
        clear d0 d1 d2 d3 d4 d5 d6 d7
        cases hok : jobOk x
        case false =>
          have HV : Hid (wrongF js ns = 80) := wrong_jobs (by rw [HS.out, jobsOk_drop HX.out, hok]; rfl)
          clear hok
          go_wp2_with fail
          go_ret
          exact ⟨ret_int HV.out.symm, hB⟩
        case true =>
          have HOK := hide hok
          clear hok
          go_wp2_with fail
          clear e0
          go_loopw [6] (fun z W => ∃ (k : Nat), z = .int .i64 k ∧ k ≤ i ∧ Hid (∀ k', k' < k → ∀ y, js[k']? = some y → y.n ≠ x.n) ∧ Below w.heap.size w W) (fun z _ => i - (intOf z).toNat)
          case atStart => exact ⟨0, rfl, Nat.zero_le _, hide fun k' h => absurd h (Nat.not_lt_zero _), hB⟩
          case round =>
            clear hB
            obtain ⟨W, rfl⟩ : ∃ W : World, W = wr := ⟨_, rfl⟩
            obtain ⟨k, rfl, hk, HK, hB⟩ := hrel
            by_cases hki : k < i
            · obtain ⟨y, b1, off1, hy, hA1, _, hc1⟩ := job_at (hJ.below hB) (show k < js.length by omega)
              obtain ⟨rfl, rfl⟩ : b = b1 ∧ off = off1 := by simpa using hA1
              have a0 := hc1 0 _ rfl
              obtain ⟨x', b2, off2, hx', hA2, _, hc2⟩ := job_at (hJ.below hB) hlt
              obtain ⟨rfl, rfl⟩ : b = b2 ∧ off = off2 := by simpa using hA2
              have := HX.out
              rw [hx'] at this
              injection this with this
              subst this
              have a1 := hc2 0 _ rfl
              rw [Nat.add_zero] at a0 a1
              have HY := hide hy
              have hkj : (k : Int) < (js.length : Int) := by omega
              have hki' : (k : Int) < (i : Int) := by omega
              clear hc1 hc2 hA1 hA2 hy hx'
              by_cases he : y.n = x'.n
              · have HV : Hid (wrongF js ns = 80) := wrong_jobs (by rw [HS.out, jobsOk_drop HX.out, ← he, seen_yes hki HY.out]; simp)
                rw [he] at a0
                clear he
                go_wp2_with fail
                refine wp_region_quiet (C := fun w' => ∃ u : Since W, w' = u.w) (by kernel_rfl) (by kernel_rfl) (Since.start W) ?_
                dsimp only
                have y_a0 := Since.cell a0
                have y_a1 := Since.cell a1
                repeat (go_big_quiet_step ((fail)))
                refine wpQuiet_nil ?_
                rintro W ⟨⟨_, hb⟩, rfl⟩
                try dsimp only at hb ⊢
                replace a0 : W.cell? _ = _ := y_a0 ⟨W, hb⟩
                replace a1 : W.cell? _ = _ := y_a1 ⟨W, hb⟩
                clear y_a0 y_a1
                replace hB := hB.trans (hb.mono hB.size)
                clear hb
                go_wp2_with fail
                go_ret
                exact ⟨ret_int HV.out.symm, hB⟩
              · have he' : (y.n == x'.n) = false := by simpa using he
                have HE := hide he
                clear he
                go_wp2_with fail
                refine wp_region_quiet (C := fun w' => ∃ u : Since W, w' = u.w) (by kernel_rfl) (by kernel_rfl) (Since.start W) ?_
                dsimp only
                have y_a0 := Since.cell a0
                have y_a1 := Since.cell a1
                repeat (go_big_quiet_step ((fail)))
                refine wpQuiet_nil ?_
                rintro W ⟨⟨_, hb⟩, rfl⟩
                try dsimp only at hb ⊢
                replace a0 : W.cell? _ = _ := y_a0 ⟨W, hb⟩
                replace a1 : W.cell? _ = _ := y_a1 ⟨W, hb⟩
                clear y_a0 y_a1
                replace hB := hB.trans (hb.mono hB.size)
                clear hb
                go_wp2_with fail
                go_roundw
                case rel => exact ⟨k + 1, by go_num, by omega, hide fun k' h y' hy' => by
                  by_cases e : k' = k
                  · subst e
                    rw [HY.out] at hy'
                    injection hy' with hy'
                    subst hy'; exact HE.out
                  · exact HK.out k' (by omega) y' hy', hB⟩
                case measure => simp [intOf]; omega
            · obtain rfl : k = i := by omega
              have HS2 : Hid (jobsOk [] js = jobsOk (seenL (js.take (k + 1))) (js.drop (k + 1))) := by show _ = _; rw [HS.out, jobsOk_drop HX.out, HOK.out, seen_no HK.out]; rfl
              go_wp2_with fail
              go_roundw
              case rel => exact ⟨k + 1, by go_num, by omega, HS2, hB⟩
              case measure => simp [intOf]; omega
      · obtain rfl : i = js.length := by omega
        have HJ : Hid (jobsOk [] js = true) := by show _ = _; rw [HS.out, List.take_length]; exact jobsOk_end js
        by_cases h2 : 60 < ns.length
        · have HV : Hid (wrongF js ns = 81) := wrong_nights HJ.out h1 (.inl h2)
          have h2' : (60 : Int) < (ns.length : Int) := by omega
          go_wp2_with fail
          go_ret
          exact ⟨ret_int HV.out.symm, hB⟩
        · have h2' : ¬ (60 : Int) < (ns.length : Int) := by omega
          go_wp2_with fail
          go_loopw [7] (fun z W => ∃ (k : Nat), z = .int .i64 k ∧ k ≤ ns.length ∧ Hid ((ns.any fun x => !nitOk x) = (ns.drop k).any (fun x => !nitOk x)) ∧ Below w.heap.size w W) (fun z _ => ns.length - (intOf z).toNat)
          case atStart => exact ⟨0, rfl, Nat.zero_le _, hide rfl, hB⟩
          case round =>
            clear hB
            obtain ⟨W, rfl⟩ : ∃ W : World, W = wr := ⟨_, rfl⟩
            obtain ⟨k, rfl, hk, HK, hB⟩ := hrel
            by_cases hki : k < ns.length
            · obtain ⟨n, b, off, hn, hA, hb0, hcn⟩ := nitc_at (hN.below hB) hki
              have hki' : (k : Int) < (ns.length : Int) := by omega
              have HX := hide hn
              have d0 := hcn 0 _ rfl
              rw [Nat.add_zero] at d0
              have d1 := hcn 1 _ rfl
              have d2 := hcn 2 _ rfl
              have d3 := hcn 3 _ rfl
              have d4 := hcn 4 _ rfl
              have d5 := hcn 5 _ rfl
              have d6 := hcn 6 _ rfl
              have d7 := hcn 7 _ rfl
              clear hcn
              clear hn
              subst hA
              go_wp2_with fail
              refine (refNight_any n _).mono ?_
              rintro e W ⟨rfl, hb⟩
              replace hB := hB.trans (hb.mono hB.size)
              clear hb
              clear d0 d1 d2 d3 d4 d5 d6 d7
              cases hok : nitOk n
              · have HV : Hid (wrongF js ns = 81) := wrong_nights HJ.out h1 (.inr (by rw [HK.out, any_drop HX.out, hok]; rfl))
                clear hok
                go_wp2_with fail
                go_ret
                exact ⟨ret_int HV.out.symm, hB⟩
              · have HK2 : Hid ((ns.any fun x => !nitOk x) = (ns.drop (k + 1)).any (fun x => !nitOk x)) := by show _ = _; rw [HK.out, any_drop HX.out, hok]; rfl
                clear hok
                go_wp2_with fail
                go_roundw
                case rel => exact ⟨k + 1, by go_num, by omega, HK2, hB⟩
                case measure => simp [intOf]; omega
            · obtain rfl : k = ns.length := by omega
              have HV : Hid (wrongF js ns = 0) := wrong_ok HJ.out h1 h2 (by rw [HK.out, List.drop_length]; rfl)
              go_wp2_with fail
              go_ret
              exact ⟨ret_int HV.out.symm, hB⟩
def validB (js : List Job) (ns : List Nit) : Bool := decide (wrongF js ns = 0)
theorem refValid_any (AJ : Option Addr) (cJ : Nat) (js : List Job) (AN : Option Addr) (cN : Nat) (ns : List Nit) (w : World) (hJ : Slc Job.enc 8 w w.heap.size AJ js) (hN : Slc Nit.enc 8 w w.heap.size AN ns) (hl1 : js.length ≤ 1000) (hl2 : ns.length ≤ 1000) :
    Calls Try.prog 6 #[.slice AJ js.length cJ, .slice AN ns.length cN] w fun e w' => e = .returned (.bool (validB js ns)) ∧ Below w.heap.size w w' := by
  have HV : Hid (validB js ns = decide (wrongF js ns = 0)) := rfl
  go_enter Try.func6, Try.ntmps6
  go_wp2_with fail
  refine (refWrong_any AJ cJ js AN cN ns w hJ hN hl1 hl2).mono ?_
  rintro e W ⟨rfl, hB⟩
  go_wp2_with fail
  go_ret
  exact ⟨ret_bool (by rw [HV.out]; rfl), hB⟩
set_option maxRecDepth 100000 in
set_option maxHeartbeats 1000000 in
theorem indexes_any (AJ : Option Addr) (cJ n : Nat) (A : Option Addr) (c B : Nat) (l : List Int) (w : World) (hS : Slc intEnc 1 w B A l) (hl : l.length ≤ 1000) :
    Calls Try.prog 12 #[.slice AJ n cJ, .slice A l.length c] w fun e w' => e = .returned (.bool (idxF n (-1) l)) ∧ w = w' := by
  go_enter Try.func12, Try.ntmps12
  go_wp2_with fail
  go_loopw [5, 6] (fun x y W => ∃ (last : Int) (i : Nat), x = .int .i64 last ∧ y = .int .i64 i ∧ i ≤ l.length ∧ w = W ∧ Hid (idxF n (-1) l = idxF n last (l.drop i))) (fun _ y _ => l.length - (intOf y).toNat)
  case atStart => exact ⟨-1, 0, rfl, rfl, Nat.zero_le _, rfl, hide rfl⟩
  case round =>
    obtain ⟨last, i, rfl, rfl, hi, rfl, HS⟩ := hrel
    by_cases hlt : i < l.length
    · obtain ⟨x, b, off, hx, hA, hb, hc⟩ := ints_at' hS hlt
      have hii : (i : Int) < (l.length : Int) := by omega
      have HX := hide hx
      clear hx
      subst hA
      by_cases h1 : x ≤ last
      · have HV : Hid (idxF n (-1) l = false) := by show _ = _; rw [HS.out, idxF_drop HX.out, decide_eq_true h1]; rfl
        go_wp2_with fail
        go_ret
        exact ⟨ret_bool HV.out.symm, rfl⟩
      · by_cases h2 : (n : Int) ≤ x
        · have HV : Hid (idxF n (-1) l = false) := by show _ = _; rw [HS.out, idxF_drop HX.out, decide_eq_true h2]; simp
          go_wp2_with fail
          go_ret
          exact ⟨ret_bool HV.out.symm, rfl⟩
        · have HS2 : Hid (idxF n (-1) l = idxF n x (l.drop (i + 1))) := by show _ = _; rw [HS.out, idxF_drop HX.out, decide_eq_false h1, decide_eq_false h2]; rfl
          go_wp2_with fail
          go_roundw
          case rel => exact ⟨x, i + 1, rfl, by go_num, by omega, by simp, HS2⟩
          case measure => simp [intOf]; omega
    · obtain rfl : i = l.length := by omega
      have HV : Hid (idxF n (-1) l = true) := by show _ = _; rw [HS.out, List.drop_length]; rfl
      go_wp2_with fail
      go_ret
      exact ⟨ret_bool HV.out.symm, rfl⟩
end Go.Proofs.Ytkcfalehebacpaa
