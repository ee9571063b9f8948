/- SheetNils: the walk. -/
import Derived.Test.YtnejacogflkmmaaNils
import Derived.Test.YtnejacogflkmmaaBuildN
import Derived.Test.YtnejacogflkmmaaBalEq
import Derived.Deep.DeepCutAuto
import Derived.Deep.CutBlock
namespace Go.Proofs.Ytnejacogflkmmaa
open Go Go.RowKit
theorem run_build9 (w : World) : (Instr.buildSlice 83 9 #[(0, .int .i64 2), (1, .int .i64 2), (2, .int .i64 2), (3, .int .i64 2), (4, .int .i64 2), (5, .int .i64 2), (6, .int .i64 2), (7, .int .i64 2), (8, .int .i64 2)]).run Try.prog w = .ok (.slice (some ⟨w.heap.size, 0, none⟩) 9 9) (w.alloc (.cells #[.int .i64 2, .int .i64 2, .int .i64 2, .int .i64 2, .int .i64 2, .int .i64 2, .int .i64 2, .int .i64 2, .int .i64 2] 44)) := by
  kernel_rfl
def nilCells (id gr co lo ma wi le : Int) (A : Option Addr) (n c : Nat) (n0 n1 n2 n3 n4 day nid what : Int) : Array Value :=
  #[.int .i64 id, .int .i64 gr, .int .i64 co, .int .i64 lo, .int .i64 ma, .int .i64 wi, .int .i64 le, .slice A n c, .int .i64 n0, .int .i64 n1, .int .i64 n2, .int .i64 n3, .int .i64 n4, .int .i64 day, .int .i64 nid, .int .i64 what]
abbrev zeroStore : Array Value := #[.int .i64 0, .int .i64 0, .int .i64 0, .int .i64 0, .int .i64 0, .bool false, .map none, .map none, .map none, .map none, .int .i64 0, .int .i64 0, .int .i64 0]
set_option maxRecDepth 100000 in
set_option maxHeartbeats 4000000 in
theorem sheetNils_walk (id gr co lo ma wi le : Int) (A : Option Addr) (n c : Nat) (n0 n1 n2 n3 n4 day nid what : Int) (w : World) :
    Calls Try.prog 11 #[.agg #[.int .i64 id, .int .i64 gr, .int .i64 co, .int .i64 lo, .int .i64 ma, .int .i64 wi, .int .i64 le, .slice A n c, .int .i64 n0, .int .i64 n1, .int .i64 n2, .int .i64 n3, .int .i64 n4, .int .i64 day, .int .i64 nid, .int .i64 what]] w fun e w' => e = .returned (.bool true) ∧ Below w.heap.size w w' := by
  have hm := ((Blk.new w 73 #[.int .i64 id, .int .i64 gr, .int .i64 co, .int .i64 lo, .int .i64 ma, .int .i64 wi, .int .i64 le, .slice A n c, .int .i64 n0, .int .i64 n1, .int .i64 n2, .int .i64 n3, .int .i64 n4, .int .i64 day, .int .i64 nid, .int .i64 what]).alloc (.cells zeroStore 79)).alloc (.cells #[.pointer none, .pointer (some ⟨w.heap.size + 1, 0, none⟩)] 39)
  have hz := (Blk.new (w.alloc (.cells #[.int .i64 id, .int .i64 gr, .int .i64 co, .int .i64 lo, .int .i64 ma, .int .i64 wi, .int .i64 le, .slice A n c, .int .i64 n0, .int .i64 n1, .int .i64 n2, .int .i64 n3, .int .i64 n4, .int .i64 day, .int .i64 nid, .int .i64 what] 73)) 79 zeroStore).alloc (.cells #[.pointer none, .pointer (some ⟨w.heap.size + 1, 0, none⟩)] 39)
  have hs := Blk.new ((w.alloc (.cells #[.int .i64 id, .int .i64 gr, .int .i64 co, .int .i64 lo, .int .i64 ma, .int .i64 wi, .int .i64 le, .slice A n c, .int .i64 n0, .int .i64 n1, .int .i64 n2, .int .i64 n3, .int .i64 n4, .int .i64 day, .int .i64 nid, .int .i64 what] 73)).alloc (.cells zeroStore 79)) 39 #[.pointer none, .pointer (some ⟨w.heap.size + 1, 0, none⟩)]
  have hB := (((Below.refl w.heap.size w).alloc (Nat.le_refl _) (.cells #[.int .i64 id, .int .i64 gr, .int .i64 co, .int .i64 lo, .int .i64 ma, .int .i64 wi, .int .i64 le, .slice A n c, .int .i64 n0, .int .i64 n1, .int .i64 n2, .int .i64 n3, .int .i64 n4, .int .i64 day, .int .i64 nid, .int .i64 what] 73)).alloc (by simp) (.cells zeroStore 79)).alloc (by simp; omega) (.cells #[.pointer none, .pointer (some ⟨w.heap.size + 1, 0, none⟩)] 39)
  simp only [World.size_alloc] at hz hs
  go_enter Try.func11, Try.ntmps11
  go_upto_block 3 with fail
  generalize ((w.alloc (.cells #[.int .i64 id, .int .i64 gr, .int .i64 co, .int .i64 lo, .int .i64 ma, .int .i64 wi, .int .i64 le, .slice A n c, .int .i64 n0, .int .i64 n1, .int .i64 n2, .int .i64 n3, .int .i64 n4, .int .i64 day, .int .i64 nid, .int .i64 what] 73)).alloc (.cells zeroStore 79)).alloc (.cells #[.pointer none, .pointer (some ⟨w.heap.size + 1, 0, none⟩)] 39) = W at *
  go_loopw [4] (fun y W => ∃ (i : Nat), y = .int .i64 i ∧ i ≤ 2 ∧ Blk W w.heap.size 73 #[.int .i64 id, .int .i64 gr, .int .i64 co, .int .i64 lo, .int .i64 ma, .int .i64 wi, .int .i64 le, .slice A n c, .int .i64 n0, .int .i64 n1, .int .i64 n2, .int .i64 n3, .int .i64 n4, .int .i64 day, .int .i64 nid, .int .i64 what] ∧ Blk W (w.heap.size + 1) 79 zeroStore ∧ Blk W (w.heap.size + 1 + 1) 39 #[.pointer none, .pointer (some ⟨w.heap.size + 1, 0, none⟩)] ∧ Below w.heap.size w W) (fun y _ => 2 - (intOf y).toNat)
  case atStart => exact ⟨0, rfl, by omega, hm, hz, hs, hB⟩
  case round =>
    clear hm hz hs hB
    obtain ⟨W, rfl⟩ : ∃ W : World, W = wr := ⟨_, rfl⟩
    obtain ⟨i, rfl, hi, hm, hz, hs, hB⟩ := hrel
    by_cases hlt : i < 2
    · obtain ⟨v, hv, hN⟩ : ∃ v, (#[.pointer none, .pointer (some ⟨w.heap.size + 1, 0, none⟩)] : Array Value)[i]? = some v ∧ NoStore W v := by
        rcases (show i = 0 ∨ i = 1 by omega) with rfl | rfl
        · exact ⟨_, rfl, .inl rfl⟩
        · exact ⟨_, rfl, .inr ⟨_, rfl, hz.cell_ 5 rfl, hz.lt⟩⟩
      have hii : (i : Int) < 2 := by omega
      have c0 := hs.cell_ i hv
      have ei : IntKind.i64.wrap ((i : Int) + 1) = ((i + 1 : Nat) : Int) := by rw [IntWalk.i64_in _ (by omega)]; push_cast; rfl
      go_upto_region 6 with fail
      clear c0 hv
      have q0 := hm.cell_ 0 rfl
      have q1 := hm.cell_ 1 rfl
      have q2 := hm.cell_ 2 rfl
      have q3 := hm.cell_ 3 rfl
      have q4 := hm.cell_ 4 rfl
      have q5 := hm.cell_ 5 rfl
      have q6 := hm.cell_ 6 rfl
      have q7 := hm.cell_ 7 rfl
      have q8 := hm.cell_ 8 rfl
      have q9 := hm.cell_ 9 rfl
      have q10 := hm.cell_ 10 rfl
      have q11 := hm.cell_ 11 rfl
      have q12 := hm.cell_ 12 rfl
      have q13 := hm.cell_ 13 rfl
      have q14 := hm.cell_ 14 rfl
      have q15 := hm.cell_ 15 rfl
      go_wp2_with fail
      refine (lots_none v _ hN _ _ _ _ _ _).mono ?_
      rintro e W ⟨rfl, hb⟩
      clear q0 q1 q2 q3 q4 q5 q6 q7 q8 q9 q10 q11 q12 q13 q14 q15
      replace hm := hm.below hb hm.lt
      replace hz := hz.below hb hz.lt
      replace hs := hs.below hb hs.lt
      replace hN := NoStore.below hN hb
      replace hB := hB.trans (hb.mono hB.size)
      clear hb
      have q0 := hm.cell_ 0 rfl
      have q1 := hm.cell_ 1 rfl
      have q2 := hm.cell_ 2 rfl
      have q3 := hm.cell_ 3 rfl
      have q4 := hm.cell_ 4 rfl
      have q5 := hm.cell_ 5 rfl
      have q6 := hm.cell_ 6 rfl
      have q7 := hm.cell_ 7 rfl
      have q8 := hm.cell_ 8 rfl
      have q9 := hm.cell_ 9 rfl
      have q10 := hm.cell_ 10 rfl
      have q11 := hm.cell_ 11 rfl
      have q12 := hm.cell_ 12 rfl
      have q13 := hm.cell_ 13 rfl
      have q14 := hm.cell_ 14 rfl
      have q15 := hm.cell_ 15 rfl
      go_wp2_with fail
      refine (take_none v _ hN _ _ _ _ _ _).mono ?_
      rintro e W ⟨rfl, hb⟩
      clear q0 q1 q2 q3 q4 q5 q6 q7 q8 q9 q10 q11 q12 q13 q14 q15
      replace hm := hm.below hb hm.lt
      replace hz := hz.below hb hz.lt
      replace hs := hs.below hb hs.lt
      replace hN := NoStore.below hN hb
      replace hB := hB.trans (hb.mono hB.size)
      clear hb
      have q0 := hm.cell_ 0 rfl
      have q1 := hm.cell_ 1 rfl
      have q2 := hm.cell_ 2 rfl
      have q3 := hm.cell_ 3 rfl
      have q4 := hm.cell_ 4 rfl
      have q5 := hm.cell_ 5 rfl
      have q6 := hm.cell_ 6 rfl
      have q7 := hm.cell_ 7 rfl
      have q8 := hm.cell_ 8 rfl
      have q9 := hm.cell_ 9 rfl
      have q10 := hm.cell_ 10 rfl
      have q11 := hm.cell_ 11 rfl
      have q12 := hm.cell_ 12 rfl
      have q13 := hm.cell_ 13 rfl
      have q14 := hm.cell_ 14 rfl
      have q15 := hm.cell_ 15 rfl
      go_wp2_with fail
      refine (expire_none v _ hN _).mono ?_
      rintro e W ⟨rfl, hb⟩
      clear q0 q1 q2 q3 q4 q5 q6 q7 q8 q9 q10 q11 q12 q13 q14 q15
      replace hm := hm.below hb hm.lt
      replace hz := hz.below hb hz.lt
      replace hs := hs.below hb hs.lt
      replace hN := NoStore.below hN hb
      replace hB := hB.trans (hb.mono hB.size)
      clear hb
      have q0 := hm.cell_ 0 rfl
      have q1 := hm.cell_ 1 rfl
      have q2 := hm.cell_ 2 rfl
      have q3 := hm.cell_ 3 rfl
      have q4 := hm.cell_ 4 rfl
      have q5 := hm.cell_ 5 rfl
      have q6 := hm.cell_ 6 rfl
      have q7 := hm.cell_ 7 rfl
      have q8 := hm.cell_ 8 rfl
      have q9 := hm.cell_ 9 rfl
      have q10 := hm.cell_ 10 rfl
      have q11 := hm.cell_ 11 rfl
      have q12 := hm.cell_ 12 rfl
      have q13 := hm.cell_ 13 rfl
      have q14 := hm.cell_ 14 rfl
      have q15 := hm.cell_ 15 rfl
      go_wp2_with fail
      refine (recall_none v _ hN _).mono ?_
      rintro e W ⟨rfl, hb⟩
      clear q0 q1 q2 q3 q4 q5 q6 q7 q8 q9 q10 q11 q12 q13 q14 q15
      replace hm := hm.below hb hm.lt
      replace hz := hz.below hb hz.lt
      replace hs := hs.below hb hs.lt
      replace hN := NoStore.below hN hb
      replace hB := hB.trans (hb.mono hB.size)
      clear hb
      have q0 := hm.cell_ 0 rfl
      have q1 := hm.cell_ 1 rfl
      have q2 := hm.cell_ 2 rfl
      have q3 := hm.cell_ 3 rfl
      have q4 := hm.cell_ 4 rfl
      have q5 := hm.cell_ 5 rfl
      have q6 := hm.cell_ 6 rfl
      have q7 := hm.cell_ 7 rfl
      have q8 := hm.cell_ 8 rfl
      have q9 := hm.cell_ 9 rfl
      have q10 := hm.cell_ 10 rfl
      have q11 := hm.cell_ 11 rfl
      have q12 := hm.cell_ 12 rfl
      have q13 := hm.cell_ 13 rfl
      have q14 := hm.cell_ 14 rfl
      have q15 := hm.cell_ 15 rfl
      go_wp2_with fail
      refine (trace_none v _ hN _).mono ?_
      rintro e W ⟨rfl, hb⟩
      clear q0 q1 q2 q3 q4 q5 q6 q7 q8 q9 q10 q11 q12 q13 q14 q15
      replace hm := hm.below hb hm.lt
      replace hz := hz.below hb hz.lt
      replace hs := hs.below hb hs.lt
      replace hN := NoStore.below hN hb
      replace hB := hB.trans (hb.mono hB.size)
      clear hb
      have q0 := hm.cell_ 0 rfl
      have q1 := hm.cell_ 1 rfl
      have q2 := hm.cell_ 2 rfl
      have q3 := hm.cell_ 3 rfl
      have q4 := hm.cell_ 4 rfl
      have q5 := hm.cell_ 5 rfl
      have q6 := hm.cell_ 6 rfl
      have q7 := hm.cell_ 7 rfl
      have q8 := hm.cell_ 8 rfl
      have q9 := hm.cell_ 9 rfl
      have q10 := hm.cell_ 10 rfl
      have q11 := hm.cell_ 11 rfl
      have q12 := hm.cell_ 12 rfl
      have q13 := hm.cell_ 13 rfl
      have q14 := hm.cell_ 14 rfl
      have q15 := hm.cell_ 15 rfl
      go_upto_region 11 with fail
      clear q0 q1 q2 q3 q4 q5 q6 q7 q8 q9 q10 q11 q12 q13 q14 q15
      have HM := hide hm
      have HZ := hide hz
      have HS := hide hs
      have HN := hide hN
      have HB := hide hB
      clear hm hz hs hN hB
      refine wp_region_buildn (m := 9) (e := 44) (cs := #[.int .i64 2, .int .i64 2, .int .i64 2, .int .i64 2, .int .i64 2, .int .i64 2, .int .i64 2, .int .i64 2, .int .i64 2]) 25 23 24 [0, 1, 2, 3, 4, 5, 6, 7, 8, 9, 10, 11, 12, 13, 14, 15, 16, 17, 18, 19, 20, 21, 22] (.tmp 93) (by kernel_rfl) (by kernel_rfl) (by kernel_rfl) (by kernel_rfl) (by decide) rfl rfl rfl rfl ?_
      apply Exists.intro
      refine ⟨fun W1 hc => ?_, ?_⟩
      · have hm1 := HM.out.below hc HM.out.lt
        have y0 := Since.cell (hm1.cell_ 0 rfl)
        have y1 := Since.cell (hm1.cell_ 1 rfl)
        have y2 := Since.cell (hm1.cell_ 2 rfl)
        have y3 := Since.cell (hm1.cell_ 3 rfl)
        have y4 := Since.cell (hm1.cell_ 4 rfl)
        have y5 := Since.cell (hm1.cell_ 5 rfl)
        have y6 := Since.cell (hm1.cell_ 6 rfl)
        have y7 := Since.cell (hm1.cell_ 7 rfl)
        have y14 := Since.cell (hm1.cell_ 14 rfl)
        have y15 := Since.cell (hm1.cell_ 15 rfl)
        have HN1 := hide (HN.out.below hc)
        clear hm1
        dsimp only [pick, List.filterMap, List.getElem?_cons_succ, List.getElem?_cons_zero]
        repeat (go_big_quiet_step ((first | (go_at_call 35; exact Since.calls (receive_none v _ (HN1.out.below (Since.h _)) _ _ _ _ _ _ _ _ _ _)) | (go_at_call 36; exact Since.calls (use_none v _ (HN1.out.below (Since.h _)) _ _)) | (go_at_call 28; exact Since.calls (return_none v _ (HN1.out.below (Since.h _)) _)) | (go_at_call 37; exact Since.calls (scrap_none v _ (HN1.out.below (Since.h _)) _)))))
        exact wpQuiet_nil rfl
      refine ⟨rfl, fun w1 => exec_build rfl (by simp [Act.eval] <;> rfl) (run_build9 w1), fun u0 => ⟨rfl, fun w1 => rfl⟩, fun ge W2 hb he => ?_⟩
      have hm := HM.out.below hb HM.out.lt
      have hz := HZ.out.below hb HZ.out.lt
      have hs := HS.out.below hb HS.out.lt
      have hN := HN.out.below hb
      have hB := HB.out.trans (hb.mono HB.out.size)
      clear HM HZ HS HN HB hb
      obtain ⟨W, rfl⟩ : ∃ X : World, X = W2 := ⟨_, rfl⟩
      dsimp only [Act.put]
      simp only [List.setIfInBounds_toArray, List.set_cons_succ, List.set_cons_zero, List.drop_succ_cons, List.drop_zero]
      go_upto_block 13 with fail
      go_loopw [17] (fun y W => ∃ (k : Nat), y = .int .i64 k ∧ k ≤ 9 ∧ Blk W w.heap.size 73 #[.int .i64 id, .int .i64 gr, .int .i64 co, .int .i64 lo, .int .i64 ma, .int .i64 wi, .int .i64 le, .slice A n c, .int .i64 n0, .int .i64 n1, .int .i64 n2, .int .i64 n3, .int .i64 n4, .int .i64 day, .int .i64 nid, .int .i64 what] ∧ Blk W (w.heap.size + 1) 79 zeroStore ∧ Blk W (w.heap.size + 1 + 1) 39 #[.pointer none, .pointer (some ⟨w.heap.size + 1, 0, none⟩)] ∧ NoStore W v ∧ Blk W ge 44 #[.int .i64 2, .int .i64 2, .int .i64 2, .int .i64 2, .int .i64 2, .int .i64 2, .int .i64 2, .int .i64 2, .int .i64 2] ∧ Below w.heap.size w W) (fun y _ => 9 - (intOf y).toNat)
      case atStart => exact ⟨0, rfl, by omega, hm, hz, hs, hN, he, hB⟩
      case round =>
        clear hm hz hs hN hB he
        obtain ⟨W, rfl⟩ : ∃ W : World, W = wr := ⟨_, rfl⟩
        obtain ⟨k, rfl, hk, hm, hz, hs, hN, he, hB⟩ := hrel
        by_cases hk9 : k < 9
        · have hki : (k : Int) < 9 := by omega
          have ek : IntKind.i64.wrap ((k : Int) + 1) = ((k + 1 : Nat) : Int) := by rw [IntWalk.i64_in _ (by omega)]; push_cast; rfl
          have c0 : W.cell? ⟨ge, k, none⟩ = some (.int .i64 2) := he.cell_ k (by
            rcases (show k = 0 ∨ k = 1 ∨ k = 2 ∨ k = 3 ∨ k = 4 ∨ k = 5 ∨ k = 6 ∨ k = 7 ∨ k = 8 by omega) with rfl | rfl | rfl | rfl | rfl | rfl | rfl | rfl | rfl <;> rfl)
          go_wp2_with fail
          go_roundw
          case rel => exact ⟨k + 1, by go_num, by omega, hm, hz, hs, hN, he, hB⟩
          case measure => simp [intOf]; omega
        · obtain rfl : k = 9 := by omega
          have hnb := neq_bal 0 0 0 0 0
          clear he
          go_wp2_with fail
          refine (items_none v _ hN).mono ?_
          rintro e W ⟨rfl, hb⟩
          replace hm := hm.below hb hm.lt
          replace hz := hz.below hb hz.lt
          replace hs := hs.below hb hs.lt
          replace hN := NoStore.below hN hb
          replace hB := hB.trans (hb.mono hB.size)
          clear hb
          have q0 := hm.cell_ 0 rfl
          have q1 := hm.cell_ 1 rfl
          have q2 := hm.cell_ 2 rfl
          have q3 := hm.cell_ 3 rfl
          have q4 := hm.cell_ 4 rfl
          have q5 := hm.cell_ 5 rfl
          have q6 := hm.cell_ 6 rfl
          have q7 := hm.cell_ 7 rfl
          have q8 := hm.cell_ 8 rfl
          have q9 := hm.cell_ 9 rfl
          have q10 := hm.cell_ 10 rfl
          have q11 := hm.cell_ 11 rfl
          have q12 := hm.cell_ 12 rfl
          have q13 := hm.cell_ 13 rfl
          have q14 := hm.cell_ 14 rfl
          have q15 := hm.cell_ 15 rfl
          go_wp2_with fail
          refine (pieces_none v _ hN).mono ?_
          rintro e W ⟨rfl, hb⟩
          clear q0 q1 q2 q3 q4 q5 q6 q7 q8 q9 q10 q11 q12 q13 q14 q15
          replace hm := hm.below hb hm.lt
          replace hz := hz.below hb hz.lt
          replace hs := hs.below hb hs.lt
          replace hN := NoStore.below hN hb
          replace hB := hB.trans (hb.mono hB.size)
          clear hb
          have q0 := hm.cell_ 0 rfl
          have q1 := hm.cell_ 1 rfl
          have q2 := hm.cell_ 2 rfl
          have q3 := hm.cell_ 3 rfl
          have q4 := hm.cell_ 4 rfl
          have q5 := hm.cell_ 5 rfl
          have q6 := hm.cell_ 6 rfl
          have q7 := hm.cell_ 7 rfl
          have q8 := hm.cell_ 8 rfl
          have q9 := hm.cell_ 9 rfl
          have q10 := hm.cell_ 10 rfl
          have q11 := hm.cell_ 11 rfl
          have q12 := hm.cell_ 12 rfl
          have q13 := hm.cell_ 13 rfl
          have q14 := hm.cell_ 14 rfl
          have q15 := hm.cell_ 15 rfl
          go_wp2_with fail
          refine (balance_none v _ hN).mono ?_
          rintro e W ⟨rfl, hb⟩
          clear q0 q1 q2 q3 q4 q5 q6 q7 q8 q9 q10 q11 q12 q13 q14 q15
          replace hm := hm.below hb hm.lt
          replace hz := hz.below hb hz.lt
          replace hs := hs.below hb hs.lt
          replace hN := NoStore.below hN hb
          replace hB := hB.trans (hb.mono hB.size)
          clear hb
          have q0 := hm.cell_ 0 rfl
          have q1 := hm.cell_ 1 rfl
          have q2 := hm.cell_ 2 rfl
          have q3 := hm.cell_ 3 rfl
          have q4 := hm.cell_ 4 rfl
          have q5 := hm.cell_ 5 rfl
          have q6 := hm.cell_ 6 rfl
          have q7 := hm.cell_ 7 rfl
          have q8 := hm.cell_ 8 rfl
          have q9 := hm.cell_ 9 rfl
          have q10 := hm.cell_ 10 rfl
          have q11 := hm.cell_ 11 rfl
          have q12 := hm.cell_ 12 rfl
          have q13 := hm.cell_ 13 rfl
          have q14 := hm.cell_ 14 rfl
          have q15 := hm.cell_ 15 rfl
          go_wp2_with fail
          refine (copy_none v _ hN).mono ?_
          rintro e W ⟨rfl, hb⟩
          clear q0 q1 q2 q3 q4 q5 q6 q7 q8 q9 q10 q11 q12 q13 q14 q15
          replace hm := hm.below hb hm.lt
          replace hz := hz.below hb hz.lt
          replace hs := hs.below hb hs.lt
          replace hN := NoStore.below hN hb
          replace hB := hB.trans (hb.mono hB.size)
          clear hb
          have q0 := hm.cell_ 0 rfl
          have q1 := hm.cell_ 1 rfl
          have q2 := hm.cell_ 2 rfl
          have q3 := hm.cell_ 3 rfl
          have q4 := hm.cell_ 4 rfl
          have q5 := hm.cell_ 5 rfl
          have q6 := hm.cell_ 6 rfl
          have q7 := hm.cell_ 7 rfl
          have q8 := hm.cell_ 8 rfl
          have q9 := hm.cell_ 9 rfl
          have q10 := hm.cell_ 10 rfl
          have q11 := hm.cell_ 11 rfl
          have q12 := hm.cell_ 12 rfl
          have q13 := hm.cell_ 13 rfl
          have q14 := hm.cell_ 14 rfl
          have q15 := hm.cell_ 15 rfl
          go_wp2_with fail
          go_roundw
          case rel => exact ⟨i + 1, by go_num, by omega, hm, hz, hs, hB⟩
          case measure => simp [intOf]; omega
    · obtain rfl : i = 2 := by omega
      go_wp2_with fail
      refine (awake_any _).mono ?_
      rintro e W ⟨rfl, hb⟩
      replace hm := hm.below hb hm.lt
      replace hz := hz.below hb hz.lt
      replace hs := hs.below hb hs.lt
      replace hB := hB.trans (hb.mono hB.size)
      clear hb
      have q0 := hm.cell_ 0 rfl
      have q1 := hm.cell_ 1 rfl
      have q2 := hm.cell_ 2 rfl
      have q3 := hm.cell_ 3 rfl
      have q4 := hm.cell_ 4 rfl
      have q5 := hm.cell_ 5 rfl
      have q6 := hm.cell_ 6 rfl
      have q7 := hm.cell_ 7 rfl
      have q8 := hm.cell_ 8 rfl
      have q9 := hm.cell_ 9 rfl
      have q10 := hm.cell_ 10 rfl
      have q11 := hm.cell_ 11 rfl
      have q12 := hm.cell_ 12 rfl
      have q13 := hm.cell_ 13 rfl
      have q14 := hm.cell_ 14 rfl
      have q15 := hm.cell_ 15 rfl
      go_wp2_with fail
      go_ret
      exact ⟨rfl, hB⟩
end Go.Proofs.Ytnejacogflkmmaa
