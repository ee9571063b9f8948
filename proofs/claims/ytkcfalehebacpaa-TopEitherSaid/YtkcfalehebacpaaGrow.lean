/- grow: the walk. -/
import Derived.Test.YtkcfalehebacpaaMatchQ
import Derived.Test.YtkcfalehebacpaaPush
namespace Go.Proofs.Ytkcfalehebacpaa
open Go Go.RowKit
def Two (bp bn : Nat) (q : Nat) : Prop := q = bp ∨ q = bn
def GrowPost (K : Nat → Prop) (g : Nat) (AC : Option Addr) (cC cP cN bp bn : Nat) (C : List (List Int)) (cap N : List Int) (w : World) (e : Ending) (w' : World) : Prop :=
  ∃ N' P', e = .returned (.int .i64 (doneN N')) ∧ Mem K w' g AC cC cP cN bp bn C N' P' ∧ Chg (Two bp bn) w w' ∧ VM C cap N' P' ∧ StuckTo C N' P' C.length ∧ Keep N N'
set_option maxRecDepth 100000 in
set_option maxHeartbeats 4000000 in
theorem grow_any (K : Nat → Prop) (g : Nat) (AC : Option Addr) (cC cP cN bp bn : Nat) (C : List (List Int)) (cap : List Int) (hcr : ∀ (i : Nat) l, C[i]? = some l → l.length ≤ 100) (N0 P0 : List Int) (hl1 : N0.length ≤ 100) (hl2 : P0.length ≤ 100) (w : World) (hK : ∀ b, K b → b < w.heap.size)
    (hM : Mem K w g AC cC cP cN bp bn C N0 P0) (hV : VM C cap N0 P0) :
    Calls Try.prog 64 #[.pointer (some ⟨g, 0, none⟩)] w (GrowPost K g AC cC cP cN bp bn C cap N0 w) := by
  have hmk : ∀ (n : Nat), n ≤ 100 → ∀ w, (Instr.makeSlice 77 (.int .i64 n) (.int .i64 n)).run Try.prog w = .ok (.slice (some ⟨w.heap.size, 0, none⟩) n n) (w.alloc (.cells (List.replicate n (Value.bool false)).toArray 4)) := fun n hn w => run_make1 (P := Try.prog) (bytes := 1) (z := .bool false) Try.underlying77 (by kernel_rfl) rfl (by omega) n (by omega) w
  have HMK := hide hmk
  have g2 := hM.blk.cell_ 2 rfl
  have hcl := hV.sh.cl
  have HCL := hide hcl
  have HCR := hide hcr
  have HV0 := hide hV
  have HK := hide hK
  clear hmk hcr hcl hV hK
  go_enter Try.func64, Try.ntmps64
  go_wp2_with fail
  clear g2
  go_loopw [3, 11] (fun x y W => ∃ (j : Nat) (N P : List Int), x = .int .i64 ((N.take j).countP (fun v => decide (0 ≤ v)) : Nat) ∧ y = .int .i64 j ∧ j ≤ N0.length ∧ Mem K W g AC cC cP cN bp bn C N P ∧ Chg (Two bp bn) w W ∧ Hid (VM C cap N P ∧ StuckTo C N P j ∧ Keep N0 N ∧ N.length = N0.length ∧ P.length = P0.length)) (fun _ y _ => N0.length - (intOf y).toNat)
  case atStart => exact ⟨0, N0, P0, by simp, rfl, Nat.zero_le _, hM, Chg.refl _ _, hide ⟨HV0.out, fun i h => absurd h (Nat.not_lt_zero _), Keep.refl _, rfl, rfl⟩⟩
  case round =>
    clear hM
    obtain ⟨W, rfl⟩ : ∃ W : World, W = wr := ⟨_, rfl⟩
    obtain ⟨j, N, P, rfl, rfl, hj, hM, hC, HT⟩ := hrel
    by_cases hlt : j < N0.length
    · obtain ⟨v, hv⟩ : ∃ v, N[j]? = some v := ⟨_, List.getElem?_eq_getElem (by rw [HT.out.2.2.2.1]; exact hlt)⟩
      obtain ⟨js, n1⟩ := hM.night
      have nj := n1.cell_ j (intJ_get hv)
      have hvb := HT.out.1.sh.nk j v hv
      have HVV := hide hv
      have hcp : (N.take j).countP (fun v => decide (0 ≤ v)) ≤ j := Nat.le_trans List.countP_le_length (by rw [List.length_take]; omega)
      have HCS := hide (countP_snoc (f := fun v => decide (0 ≤ v)) hv)
      have hji : (j : Int) < (N0.length : Int) := by omega
      have hPl : P.length ≤ 100 := by rw [HT.out.2.2.2.2]; exact hl2
      have hNl : N.length ≤ 100 := by rw [HT.out.2.2.2.1]; exact hl1
      clear hv n1
      by_cases h0 : 0 ≤ v
      · have HN : Hid ((N.take (j + 1)).countP (fun v => decide (0 ≤ v)) = (N.take j).countP (fun v => decide (0 ≤ v)) + 1) := by
          show _ = _
          rw [HCS.out, decide_eq_true h0]; rfl
        have HT2 := hide (show VM C cap N P ∧ StuckTo C N P (j + 1) ∧ Keep N0 N ∧ N.length = N0.length ∧ P.length = P0.length from ⟨HT.out.1, HT.out.2.1.more HVV.out (fun h => absurd h (by omega)), HT.out.2.2⟩)
        generalize (N.take j).countP (fun v => decide (0 ≤ v)) = cnt0 at *
        go_wp2_with fail
        go_roundw
        case rel => exact ⟨j + 1, N, P, by rw [HN.out]; go_num, by go_num, by omega, hM, hC, HT2⟩
        case measure => simp [intOf]; omega
      · obtain rfl : v = -1 := by omega
        have hmk : ∀ w, (Instr.makeSlice 77 (.int .i64 P.length) (.int .i64 P.length)).run Try.prog w = .ok (.slice (some ⟨w.heap.size, 0, none⟩) P.length P.length) (w.alloc (.cells (List.replicate P.length (Value.bool false)).toArray 4)) := HMK.out P.length hPl
        have g1 := hM.blk.cell_ 1 rfl
        have HAL : Hid (Mem K (W.alloc (.cells (List.replicate P.length (Value.bool false)).toArray 4)) g AC cC cP cN bp bn C N P) := hM.far (S := fun _ => False) (.of_below ((Below.refl _ W).alloc (Nat.le_refl _) _)) (fun h => h) (fun h => h) (fun h => h) (fun _ _ h => h)
        have HSB : Hid (Blk (W.alloc (.cells (List.replicate P.length (Value.bool false)).toArray 4)) W.heap.size 4 (bools (List.replicate P.length false))) := by
          have h := Blk.new W 4 (List.replicate P.length (Value.bool false)).toArray
          show Blk _ _ _ _
          unfold bools
          rw [List.map_replicate]
          exact h
        obtain ⟨j1, p1⟩ := hM.places
        obtain ⟨j2, n2⟩ := hM.night
        have l1 := hM.blk.lt
        have l2 := p1.lt
        have l3 := n2.lt
        have hsz := hC.size
        generalize hcnt : (N.take j).countP (fun v => decide (0 ≤ v)) = cnt0 at *
        have HCNT := hide hcnt
        clear p1 n2 hM hcnt
        go_wp2_with fail
        refine (push_any K g AC cC cP cN bp bn W.heap.size C (by omega) (by omega) (by omega) (fun b hb => by have := HK.out b hb; omega) HCR.out N P HT.out.1.sh hNl hPl (uns (List.replicate P.length false) + 1) (List.replicate P.length false) j (-1) _ (Nat.lt_succ_self _) (by simp) HVV.out (.inl rfl) HAL.out HSB.out).mono ?_
        rintro e W5 ⟨r, N1, P1, S5, rfl, hM5, hSb5, hC5, hmo, hgood, hbad⟩
        have hC6 : Chg (Two bp bn) w W5 := (hC.trans (.of_below ((Below.refl _ W).alloc (Nat.le_refl _) _))).trans' hC5 (fun q hq h => by
          rcases h with h | h | h
          · exact .inl h
          · exact .inr h
          · omega)
        cases r with
        | true =>
          have HS := hide (hgood rfl)
          have HN : Hid ((N1.take (j + 1)).countP (fun v => decide (0 ≤ v)) = cnt0 + 1) := by
            obtain ⟨k, q1, _⟩ := HS.out.got
            show _ = _
            rw [countP_snoc q1, ← HCNT.out]
            have h0 : decide (0 ≤ (k : Int)) = true := by simp
            rw [h0]
            simp only [if_true]
            congr 1
            refine countP_same j HS.out.nl fun i a b hi ha hb => ?_
            obtain ⟨v', g1, g2, _⟩ := HS.out.job hb (by omega)
            rw [ha] at g1
            injection g1 with g1
            subst g1
            simp [g2]
          have HT2 := hide (show VM C cap N1 P1 ∧ StuckTo C N1 P1 (j + 1) ∧ Keep N0 N1 ∧ N1.length = N0.length ∧ P1.length = P0.length from ⟨HT.out.1.succ HVV.out HS.out, by
            obtain ⟨k, q1, _⟩ := HS.out.got
            exact (HT.out.2.1.succ (Nat.le_refl _) HS.out).more q1 (fun h => absurd h (by omega)), HT.out.2.2.1.trans HS.out.keep, by rw [HS.out.nl]; exact HT.out.2.2.2.1, by rw [HS.out.pl]; exact HT.out.2.2.2.2⟩)
          clear hgood hbad hmo hC5 hSb5 g1 hmk nj
          go_wp2_with fail
          go_roundw
          case rel => exact ⟨j + 1, N1, P1, by rw [HN.out]; go_num, by go_num, by omega, hM5, hC6, HT2⟩
          case measure => simp [intOf]; omega
        | false =>
          obtain ⟨rfl, rfl, hfail⟩ := hbad rfl
          have HF := hide hfail
          have HN : Hid ((N1.take (j + 1)).countP (fun v => decide (0 ≤ v)) = cnt0) := by
            show _ = _
            rw [HCS.out, ← HCNT.out]; rfl
          have HT2 := hide (show VM C cap N1 P1 ∧ StuckTo C N1 P1 (j + 1) ∧ Keep N0 N1 ∧ N1.length = N0.length ∧ P1.length = P0.length from ⟨HT.out.1, HT.out.2.1.more HVV.out (fun _ => ⟨Sn S5, HF.out.closed (fun k hk => by
            unfold Sn at hk
            rw [List.getElem?_replicate] at hk
            split at hk <;> cases hk), HF.out.all⟩), HT.out.2.2⟩)
          clear hgood hbad hmo hC5 hSb5 g1 hmk nj hfail
          go_wp2_with fail
          go_roundw
          case rel => exact ⟨j + 1, N1, P1, by rw [HN.out], by go_num, by omega, hM5, hC6, HT2⟩
          case measure => simp [intOf]; omega
    · obtain rfl : j = N0.length := by omega
      have HD : Hid ((N.take N0.length).countP (fun v => decide (0 ≤ v)) = doneN N) := by
        show _ = _
        rw [← HT.out.2.2.2.1, List.take_length]; rfl
      rw [HD.out]
      go_wp2_with fail
      go_ret
      exact ⟨N, P, rfl, hM, hC, HT.out.1, by rw [HCL.out]; exact HT.out.2.1, HT.out.2.2.1⟩
end Go.Proofs.Ytkcfalehebacpaa
