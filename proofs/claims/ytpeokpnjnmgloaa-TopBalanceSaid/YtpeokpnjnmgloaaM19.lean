/- Parts of the proofs of this seat: StabIInt. Each part says what it proves; no condition beyond those stated there. -/
import Derived.Test.YtpeokpnjnmgloaaM17

/- The library's stable sort of int: insertion (after the kit's slices.insertionSortCmpFunc at structs, which is proved over another program's text). -/
namespace Go.Proofs.Ytpeokpnjnmgloaa
open Go Go.Sort Go.RowKit Go.Lib Go.Shelf Go.Proofs
namespace StabInt
variable {P : Program} {α : Type} [Inhabited α]
section
variable (L : Lay P) (enc : α → Value) (hk : OneCell enc)
include L hk
set_option maxHeartbeats 4000000 in
set_option maxRecDepth 1000000 in
theorem insertion_any (cf : α → α → Int) (g : Nat) (cb : Array Value) (blk off cap a b : Nat) (d : Array α) (w : World)
    (eg : ∀ args w, (callFunc g args).run P w = .ok (.enter g args) w) (hcmp : CmpLays1 P g cb enc cf blk off d.size w) (hH : Holds enc w blk off d) (hblk : blk < w.heap.size) (hab : a ≤ b) (hb : b ≤ d.size) (hsz : d.size < 4611686018427387904) :
    Calls P 72 #[.slice (some ⟨blk, off, none⟩) d.size cap, .int .i64 a, .int .i64 b, .func (.func g) #[] cb] w fun e w' =>
      e = .returned (.tuple #[]) ∧ ∃ n os, w' = SW enc w blk off n (Sort.insertionSort (ltOf cf) d a b) os := by
  have mixed := L.mixed; have tS := L.tS; have aS := L.aS; have zS := L.zS; have vS := L.vS; have t3 := L.t3; have a3 := L.a3; have z3 := L.z3; have v3 := L.v3; have t4 := L.t4; have a4 := L.a4; have z4 := L.z4; have v4 := L.v4; have tU := L.tU; have aU := L.aU; have zU := L.zU; have vU := L.vU
  have uS := run_underlying L.tS
  have eIns := L.eIns; have eSwr := L.eSwr; have eRot := L.eRot; have eSym := L.eSym; have eStb := L.eStb
  have HC : Aside _ := hcmp
  have HST : Hid (w = SW enc w blk off 0 d #[]) := by show w = _; unfold SW sortWorld; rw [grow_empty]; exact (putRow_self enc w blk off d hH).symm
  have HH : Hid (Holds enc w blk off d) := hH
  have HK : Hid (OneCell enc) := hk
  clear hcmp
  clear hH hk
  go_enter L.fIns, Try.ntmps72
  go_wp2
  go_loopg [8] (b - a) (fun g1 vi wr => ∃ (i n : Nat) (dk : Array α) (os : Array Obj), vi = .int .i64 i ∧ a < i ∧ i ≤ b + 1 ∧ b + 1 - i ≤ g1 + 1 ∧ dk.size = d.size ∧ Hid (wr = SW enc w blk off n dk os) ∧ Hid (insOuter (ltOf cf) a b i dk = insOuter (ltOf cf) a b (a + 1) d))
  case atStart => exact ⟨a + 1, 0, d, #[], by go_num, by omega, by omega, by omega, rfl, HST, rfl⟩
  case round =>
    obtain ⟨i, n0, dk0, os0, rfl, hai, hib, hg1, hsk, HQ0, HO⟩ := hrel
    by_cases hlt : i < b
    · have hltz : (i : Int) < (b : Int) := by omega
      go_wp2
      -- the inner loop
      go_loopg [9] i (fun g2 vj wr2 => ∃ (j q : Nat) (dk : Array α) (os : Array Obj), vj = .int .i64 j ∧ a ≤ j ∧ j ≤ i ∧ j ≤ g2 ∧ dk.size = d.size ∧ Hid (wr2 = SW enc w blk off q dk os) ∧ Hid (insInner (ltOf cf) a j dk = insInner (ltOf cf) a i dk0))
      case atStart => exact ⟨i, n0, dk0, os0, rfl, by omega, Nat.le_refl _, Nat.le_refl _, hsk, HQ0, rfl⟩
      case round =>
        clear HQ0
        obtain ⟨j, q, dk, os, rfl, haj, hji, hg2, hS, HQ, HI⟩ := hrel
        generalize wr = wq at *
        have out : (j ≤ a ∨ ltOf cf dk[j]! dk[j - 1]! = false) → Hid (insOuter (ltOf cf) a b (i + 1) dk = insOuter (ltOf cf) a b (a + 1) d) := fun hs => by
          show _ = _
          rw [← HO.out, insOuter_go _ _ _ _ _ hlt, ← HI.out, insInner_stop _ _ _ _ hs]
        have OUT : Aside _ := out
        clear out
        by_cases hja : a < j
        · have hjaz : (a : Int) < (j : Int) := by omega
          obtain ⟨p, hp⟩ : ∃ p, p + 1 = j := ⟨j - 1, by omega⟩
          have zjp : (j : Int) = (p : Int) + 1 := by omega
          have HJ1 : Hid (p + 1 = j) := hp
          have hjaz' : (a : Int) < (p : Int) + 1 := by omega
          have hjad : decide ((p : Int) + 1 > (a : Int)) = true := decide_eq_true (by omega)
          have z1 : (0 : Int) ≤ (p : Int) + 1 := by omega
          have z5 : (p : Int) + 1 < (d.size : Int) := by omega
          have z6 : (p : Int) < (d.size : Int) := by omega
          have z7 : (0 : Int) ≤ (p : Int) := by omega
          have x1 : IntKind.i64.wrap ((p : Int) + 1) = (p : Int) + 1 := IntWalk.i64_in _ (by omega)
          have x2 : IntKind.i64.wrap (p : Int) = (p : Int) := IntWalk.i64_in _ (by omega)
          have y1 : ((p : Int) + 1).toNat = j := by omega
          have y2 : (p : Int).toNat = p := by omega
          have hjs : j < dk.size := by omega
          have hps : p < dk.size := by omega
          clear hp
          by_cases hlv : cf dk[j]! dk[p]! < 0
          · have hd1 : decide (cf dk[j]! dk[p]! < 0) = true := decide_eq_true hlv
            have S0 : Go.Proofs.SW enc w blk off dk wq := ⟨_, _, HQ.out⟩
            have R0 : Row1 enc w blk off d := ⟨HK.out, HH.out, hblk⟩
            have hcl0 := HK.out.cells
            simp only [Value.cells] at hcl0
            have hst := HK.out.store P
            have l1 := S0.cl R0 hS j hjs
            have l2 := S0.cl R0 hS p hps
            have hcg := S0.cmp HC.out hS dk[j]! dk[p]!
            have CLS : Hid (∀ n' os', grow (wq.drewN n') os' = SW enc w blk off (q + n') dk (os ++ os')) := fun n' os' => by rw [HQ.out]; exact sortWorld_grown_c enc w blk off q n' dk os os'
            clear S0 R0
            go_wp2_with fail
            go_quiet_grown (first | (go_at_fn g; refine Calls.grown_of (hcg _ _)))
            have HQ2 : Hid (grow (wq.drewN nq) osq = SW enc w blk off (q + nq) dk (os ++ osq)) := CLS.out nq osq
            clear l1 l2 hcg CLS HQ hcl0 hst
            generalize grow (wq.drewN nq) osq = wq2 at *
            generalize q + nq = q2 at *
            generalize os ++ osq = os2 at *
            clear nq osq
            go_wp2_with fail
            generalize wq = wold at *
            generalize wq2 = wq at *
            have HQ := HQ2
            clear HQ2
            have S0 : Go.Proofs.SW enc w blk off dk wq := ⟨_, _, HQ.out⟩
            have R0 : Row1 enc w blk off d := ⟨HK.out, HH.out, hblk⟩
            have hcl0 := HK.out.cells
            simp only [Value.cells] at hcl0
            have hst := HK.out.store P
            skip
            have hI : j < dk.size := by omega
            have hJ : p < dk.size := by omega
            have cI := S0.c1 R0 hS j hI
            have cJ := S0.c1 R0 hS p hJ
            have fI := S0.f1 R0 hS j hI
            have fJ := S0.f1 R0 hS p hJ
            obtain ⟨x1, hx1⟩ : ∃ x, x = dk[j]! := ⟨_, rfl⟩
            obtain ⟨x2, hx2⟩ : ∃ x, x = dk[p]! := ⟨_, rfl⟩
            obtain ⟨u2, cU⟩ := S0.c2 R0 hS j p hI hJ (enc x2)
            rw [← hx1] at cI
            rw [← hx2] at cJ
            have CC : Hid (x1 = dk[j]! ∧ x2 = dk[p]!) := ⟨hx1, hx2⟩
            skip
            clear S0 R0 hx1 hx2
            go_big_region_o
            all_goals go_wp2
            go_roundg p
            case measure => omega
            case rel =>
              have hp := HJ1.out
              refine ⟨p, q2 + 1, swp dk j p, os2, by first | rfl | go_num | (congr 1; omega), by omega, by omega, Nat.le_refl _, by rw [size_swp]; exact hS, (show Hid _ from ?_), (show Hid _ from ?_)⟩
              · show _ = _
                rw [CC.out.1, CC.out.2, HQ.out]
                exact swp1_c enc w blk off q2 dk os2 hblk j p hI hJ
              · show _ = _
                have hpj : j - 1 = p := by omega
                have := insInner_go (ltOf cf) a j dk hja (by rw [hpj]; exact decide_eq_true hlv)
                rw [hpj] at this
                rw [← HI.out, this]
          · -- not less: out of the inner loop
            have hd1 : decide (cf dk[j]! dk[p]! < 0) = false := decide_eq_false hlv
            have S0 : Go.Proofs.SW enc w blk off dk wq := ⟨_, _, HQ.out⟩
            have R0 : Row1 enc w blk off d := ⟨HK.out, HH.out, hblk⟩
            have hcl0 := HK.out.cells
            simp only [Value.cells] at hcl0
            have hst := HK.out.store P
            have l1 := S0.cl R0 hS j hjs
            have l2 := S0.cl R0 hS p hps
            have hcg := S0.cmp HC.out hS dk[j]! dk[p]!
            have CLS : Hid (∀ n' os', grow (wq.drewN n') os' = SW enc w blk off (q + n') dk (os ++ os')) := fun n' os' => by rw [HQ.out]; exact sortWorld_grown_c enc w blk off q n' dk os os'
            clear S0 R0
            go_wp2_with fail
            go_quiet_grown (first | (go_at_fn g; refine Calls.grown_of (hcg _ _)))
            go_wp2
            go_roundg (b - (i + 1))
            case measure => omega
            case rel =>
              have hp := HJ1.out
              exact ⟨i + 1, _, dk, _, by go_num, by omega, by omega, by omega, hS, (CLS.out nq osq : _ = _), OUT.out (Or.inr (by rw [show j - 1 = p by omega]; exact decide_eq_false (by omega)))⟩
        · -- j = a: out of the inner loop (the guard is false: 'cmp' is not called)
          have hjaz : decide ((j : Int) > (a : Int)) = false := decide_eq_false (by omega)
          have hjaz' : ¬ (a : Int) < (j : Int) := by omega
          have HDR : Hid (wq.drew = SW enc w blk off (q + 1) dk os) := by
            show _ = _
            rw [HQ.out]
            have := sortWorld_grown_c enc w blk off q 1 dk os #[]
            rw [grow_empty, Array.append_empty] at this
            exact this
          go_wp2_with fail
          go_big_region_o
          all_goals go_wp2
          go_roundg (b - (i + 1))
          case measure => omega
          case rel => exact ⟨i + 1, q + 1, dk, os, by go_num, by omega, by omega, by omega, hS, HDR, OUT.out (Or.inl (by omega))⟩
    · have hltz : ¬ (i : Int) < (b : Int) := by omega
      go_wp2
      go_end0
      exact ⟨rfl, n0, os0, by unfold Sort.insertionSort; rw [← insOuter_stop (ltOf cf) a b i dk0 hlt, HO.out] at HQ0; exact HQ0.out⟩
end
end StabInt
end Go.Proofs.Ytpeokpnjnmgloaa
