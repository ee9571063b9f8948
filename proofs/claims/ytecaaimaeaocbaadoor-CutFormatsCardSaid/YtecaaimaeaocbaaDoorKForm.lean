/- The levels and the form of a tree: shallow, formed; deep, right of the document. -/
import Derived.Test.YtecaaimaeaocbaaDoorKParse
namespace Go.Proofs.YtecaaimaeaocbaaDoor
open Go Go.RowKit
def ShalAt (l : Nat) : Prop := ∀ (t : Tree) (op n pc : Int) (A : Option Addr) (k c L f : Nat) (w : World), TreeAt w L w.heap.size f t ⟨op, n, pc, A, k, c⟩ →
  Calls Tryd.prog 77 #[.agg #[.int .i64 op, .int .i64 n, .int .u8 pc, .slice A k c], .int .i64 l] w fun e w' => e = .returned (.bool (shT l t)) ∧ Below w.heap.size w w'
def RDeepAt (l : Nat) : Prop := ∀ (t : Tree) (op n pc : Int) (A : Option Addr) (k c L f : Nat) (w : World), TreeAt w L w.heap.size f t ⟨op, n, pc, A, k, c⟩ →
  Calls Tryd.prog 81 #[.agg #[.int .i64 op, .int .i64 n, .int .u8 pc, .slice A k c], .int .i64 l] w fun e w' => e = .returned (.bool (!shT l t)) ∧ Below w.heap.size w w'
set_option maxRecDepth 100000 in
theorem shal_zero : ShalAt 0 := by
  intro t op n pc A k c L f w hT
  obtain ⟨f, rfl⟩ := hT.succ_
  obtain ⟨-, -, -, e4, e5⟩ := hT.head
  dsimp only at e4
  subst e4
  have hk := Blk.new w 60 #[.int .i64 op, .int .i64 n, .int .u8 pc, .slice A t.ts.length c]
  have hB := (Below.refl w.heap.size w).alloc (Nat.le_refl _) (.cells #[.int .i64 op, .int .i64 n, .int .u8 pc, .slice A t.ts.length c] 60)
  have HV : Hid (shT 0 t = false) := rfl
  go_enter Tryd.func77, Tryd.ntmps77
  go_upto_region 1 with fail
  generalize w.alloc (.cells #[.int .i64 op, .int .i64 n, .int .u8 pc, .slice A t.ts.length c] 60) = W at *
  have q0 := hk.cell_ 0 rfl
  have q1 := hk.cell_ 1 rfl
  have q2 := hk.cell_ 2 rfl
  have q3 := hk.cell_ 3 rfl
  go_wp2_with fail
  go_ret
  exact ⟨ret_bool HV.out.symm, hB⟩
set_option maxRecDepth 100000 in
theorem rdeep_zero : RDeepAt 0 := by
  intro t op n pc A k c L f w hT
  obtain ⟨f, rfl⟩ := hT.succ_
  obtain ⟨-, -, -, e4, e5⟩ := hT.head
  dsimp only at e4
  subst e4
  have hk := Blk.new w 60 #[.int .i64 op, .int .i64 n, .int .u8 pc, .slice A t.ts.length c]
  have hB := (Below.refl w.heap.size w).alloc (Nat.le_refl _) (.cells #[.int .i64 op, .int .i64 n, .int .u8 pc, .slice A t.ts.length c] 60)
  have HV : Hid ((!shT 0 t) = true) := rfl
  go_enter Tryd.func81, Tryd.ntmps81
  go_upto_region 1 with fail
  generalize w.alloc (.cells #[.int .i64 op, .int .i64 n, .int .u8 pc, .slice A t.ts.length c] 60) = W at *
  have q0 := hk.cell_ 0 rfl
  have q1 := hk.cell_ 1 rfl
  have q2 := hk.cell_ 2 rfl
  have q3 := hk.cell_ 3 rfl
  go_wp2_with fail
  go_ret
  exact ⟨ret_bool HV.out.symm, hB⟩
set_option maxRecDepth 100000 in
set_option maxHeartbeats 2000000 in
theorem shal_step (l : Nat) (hl : l ≤ 1000) (H : ShalAt l) : ShalAt (l + 1) := by
  intro t op n pc A k c L f w hT
  obtain ⟨f, rfl⟩ := hT.succ_
  obtain ⟨-, -, -, e4, e5⟩ := hT.head
  dsimp only at e4
  subst e4
  have hk := Blk.new w 60 #[.int .i64 op, .int .i64 n, .int .u8 pc, .slice A t.ts.length c]
  have hB := (Below.refl w.heap.size w).alloc (Nat.le_refl _) (.cells #[.int .i64 op, .int .i64 n, .int .u8 pc, .slice A t.ts.length c] 60)
  obtain ⟨m, hm⟩ : ∃ m, l + 1 = m := ⟨_, rfl⟩
  have f1 : ((m : Int) == 0) = false := by simp; omega
  have f2 : IntKind.i64.wrap ((m : Int) - 1) = (l : Int) := by rw [IntWalk.i64_in _ (by omega)]; omega
  have HA0 : Hid (shT (l + 1) t = (t.ts.drop 0).all (shT l)) := rfl
  rw [hm] at HA0 ⊢
  have HH := hide H
  clear H hm
  go_enter Tryd.func77, Tryd.ntmps77
  go_upto_region 1 with fail
  generalize w.alloc (.cells #[.int .i64 op, .int .i64 n, .int .u8 pc, .slice A t.ts.length c] 60) = W at *
  have q0 := hk.cell_ 0 rfl
  have q1 := hk.cell_ 1 rfl
  have q2 := hk.cell_ 2 rfl
  have q3 := hk.cell_ 3 rfl
  go_wp2_with fail
  clear q0 q1 q2 q3
  go_loopw [12] (fun y W => ∃ (i : Nat), y = .int .i64 i ∧ i ≤ t.ts.length ∧ Hid (shT m t = (t.ts.drop i).all (shT l)) ∧ Blk W w.heap.size 60 #[.int .i64 op, .int .i64 n, .int .u8 pc, .slice A t.ts.length c] ∧ Below w.heap.size w W) (fun y _ => t.ts.length - (intOf y).toNat)
  case atStart => exact ⟨0, rfl, Nat.zero_le _, HA0, hk, hB⟩
  case round =>
    clear hk hB HA0
    obtain ⟨W, rfl⟩ : ∃ W : World, W = wr := ⟨_, rfl⟩
    obtain ⟨i, rfl, hi, HA, hk, hB⟩ := hrel
    by_cases hlt : i < t.ts.length
    · obtain ⟨t', o1, n1, p1, A1, k1, c1, b, off, ht, hA, _, hT1, d0, d1, d2, d3⟩ := part_at (hT.on hB) hlt
      have hii : (i : Int) < (t.ts.length : Int) := by omega
      dsimp only at hA
      have HT := hide ht
      clear ht
      subst hA
      have e2 : IntKind.i64.wrap ((i : Int) + 1) = ((i + 1 : Nat) : Int) := by rw [IntWalk.i64_in _ (by omega)]; push_cast; rfl
      obtain ⟨v, hv⟩ : ∃ v, shT l t' = v := ⟨_, rfl⟩
      have HQ := hide hv
      clear hv
      have q0 := hk.cell_ 0 rfl
      have q1 := hk.cell_ 1 rfl
      have q2 := hk.cell_ 2 rfl
      have q3 := hk.cell_ 3 rfl
      have q_q0 := (hk.alloc (.cells #[.int .i64 o1, .int .i64 n1, .int .u8 p1, .slice A1 k1 c1] 60)).cell_ 0 rfl
      have q_q1 := (hk.alloc (.cells #[.int .i64 o1, .int .i64 n1, .int .u8 p1, .slice A1 k1 c1] 60)).cell_ 1 rfl
      have q_q2 := (hk.alloc (.cells #[.int .i64 o1, .int .i64 n1, .int .u8 p1, .slice A1 k1 c1] 60)).cell_ 2 rfl
      have q_q3 := (hk.alloc (.cells #[.int .i64 o1, .int .i64 n1, .int .u8 p1, .slice A1 k1 c1] 60)).cell_ 3 rfl
      go_upto_region 6 with fail
      clear q_q0 q_q1 q_q2 q_q3
      clear q0 q1 q2 q3
      have hm1 := Blk.new W 60 #[.int .i64 o1, .int .i64 n1, .int .u8 p1, .slice A1 k1 c1]
      replace hk := hk.alloc (.cells #[.int .i64 o1, .int .i64 n1, .int .u8 p1, .slice A1 k1 c1] 60)
      replace hT1 := TreeAt.on hT1 ((Below.refl _ W).alloc (Nat.le_refl _) (.cells #[.int .i64 o1, .int .i64 n1, .int .u8 p1, .slice A1 k1 c1] 60))
      have hsz_bm : (W.alloc (.cells #[.int .i64 o1, .int .i64 n1, .int .u8 p1, .slice A1 k1 c1] 60)).heap.size = W.heap.size + 1 := by simp
      have bmge := hB.size
      replace hB := hB.alloc hB.size (.cells #[.int .i64 o1, .int .i64 n1, .int .u8 p1, .slice A1 k1 c1] 60)
      generalize hbm : W.heap.size = bm at *
      generalize W.alloc (.cells #[.int .i64 o1, .int .i64 n1, .int .u8 p1, .slice A1 k1 c1] 60) = W at *
      clear hbm
      have q0 := hk.cell_ 0 rfl
      have q1 := hk.cell_ 1 rfl
      have q2 := hk.cell_ 2 rfl
      have q3 := hk.cell_ 3 rfl
      have m0 := hm1.cell_ 0 rfl
      have m1 := hm1.cell_ 1 rfl
      have m2 := hm1.cell_ 2 rfl
      have m3 := hm1.cell_ 3 rfl
      clear d0 d1 d2 d3
      go_wp2_with fail
      refine (HH.out t' o1 n1 p1 A1 k1 c1 L f _ hT1).mono ?_
      rintro e W ⟨rfl, hb⟩
      clear q0 q1 q2 q3 m0 m1 m2 m3
      replace hk := hk.below hb hk.lt
      replace hT1 := TreeAt.on hT1 hb
      replace hm1 := hm1.below hb hm1.lt
      replace hB := hB.trans (hb.mono hB.size)
      clear hb
      have q0 := hk.cell_ 0 rfl
      have q1 := hk.cell_ 1 rfl
      have q2 := hk.cell_ 2 rfl
      have q3 := hk.cell_ 3 rfl
      have m0 := hm1.cell_ 0 rfl
      have m1 := hm1.cell_ 1 rfl
      have m2 := hm1.cell_ 2 rfl
      have m3 := hm1.cell_ 3 rfl
      rw [HQ.out]
      clear q0 q1 q2 q3 m0 m1 m2 m3
      cases v
      · have HV : Hid (shT m t = false) := by show _ = _; rw [HA.out, all_drop HT.out, HQ.out]; rfl
        go_wp2_with fail
        go_ret
        exact ⟨ret_bool HV.out.symm, hB⟩
      · have HA2 : Hid (shT m t = (t.ts.drop (i + 1)).all (shT l)) := by show _ = _; rw [HA.out, all_drop HT.out, HQ.out]; rfl
        go_wp2_with fail
        go_roundw
        case rel => exact ⟨i + 1, by go_num, by omega, HA2, hk, hB⟩
        case measure => simp [intOf]; omega
    · obtain rfl : i = t.ts.length := by omega
      have HV : Hid (shT m t = true) := by show _ = _; rw [HA.out, List.drop_length]; rfl
      have q0 := hk.cell_ 0 rfl
      have q1 := hk.cell_ 1 rfl
      have q2 := hk.cell_ 2 rfl
      have q3 := hk.cell_ 3 rfl
      go_wp2_with fail
      go_ret
      exact ⟨ret_bool HV.out.symm, hB⟩
set_option maxRecDepth 100000 in
set_option maxHeartbeats 2000000 in
theorem rdeep_step (l : Nat) (hl : l ≤ 1000) (H : RDeepAt l) : RDeepAt (l + 1) := by
  intro t op n pc A k c L f w hT
  obtain ⟨f, rfl⟩ := hT.succ_
  obtain ⟨-, -, -, e4, e5⟩ := hT.head
  dsimp only at e4
  subst e4
  have hk := Blk.new w 60 #[.int .i64 op, .int .i64 n, .int .u8 pc, .slice A t.ts.length c]
  have hB := (Below.refl w.heap.size w).alloc (Nat.le_refl _) (.cells #[.int .i64 op, .int .i64 n, .int .u8 pc, .slice A t.ts.length c] 60)
  obtain ⟨m, hm⟩ : ∃ m, l + 1 = m := ⟨_, rfl⟩
  have f1 : ((m : Int) == 0) = false := by simp; omega
  have f2 : IntKind.i64.wrap ((m : Int) - 1) = (l : Int) := by rw [IntWalk.i64_in _ (by omega)]; omega
  have HA0 : Hid (shT (l + 1) t = (t.ts.drop 0).all (shT l)) := rfl
  rw [hm] at HA0 ⊢
  have HH := hide H
  clear H hm
  go_enter Tryd.func81, Tryd.ntmps81
  go_upto_region 1 with fail
  generalize w.alloc (.cells #[.int .i64 op, .int .i64 n, .int .u8 pc, .slice A t.ts.length c] 60) = W at *
  have q0 := hk.cell_ 0 rfl
  have q1 := hk.cell_ 1 rfl
  have q2 := hk.cell_ 2 rfl
  have q3 := hk.cell_ 3 rfl
  go_wp2_with fail
  clear q0 q1 q2 q3
  go_loopw [5] (fun y W => ∃ (i : Nat), y = .int .i64 i ∧ i ≤ t.ts.length ∧ Hid (shT m t = (t.ts.drop i).all (shT l)) ∧ Blk W w.heap.size 60 #[.int .i64 op, .int .i64 n, .int .u8 pc, .slice A t.ts.length c] ∧ Below w.heap.size w W) (fun y _ => t.ts.length - (intOf y).toNat)
  case atStart => exact ⟨0, rfl, Nat.zero_le _, HA0, hk, hB⟩
  case round =>
    clear hk hB HA0
    obtain ⟨W, rfl⟩ : ∃ W : World, W = wr := ⟨_, rfl⟩
    obtain ⟨i, rfl, hi, HA, hk, hB⟩ := hrel
    by_cases hlt : i < t.ts.length
    · obtain ⟨t', o1, n1, p1, A1, k1, c1, b, off, ht, hA, _, hT1, d0, d1, d2, d3⟩ := part_at (hT.on hB) hlt
      have hii : (i : Int) < (t.ts.length : Int) := by omega
      dsimp only at hA
      have HT := hide ht
      clear ht
      subst hA
      have e2 : IntKind.i64.wrap ((i : Int) + 1) = ((i + 1 : Nat) : Int) := by rw [IntWalk.i64_in _ (by omega)]; push_cast; rfl
      obtain ⟨v, hv⟩ : ∃ v, shT l t' = v := ⟨_, rfl⟩
      have HQ := hide hv
      clear hv
      have q0 := hk.cell_ 0 rfl
      have q1 := hk.cell_ 1 rfl
      have q2 := hk.cell_ 2 rfl
      have q3 := hk.cell_ 3 rfl
      go_wp2_with fail
      refine (HH.out t' o1 n1 p1 A1 k1 c1 L f _ hT1).mono ?_
      rintro e W ⟨rfl, hb⟩
      clear q0 q1 q2 q3
      replace hk := hk.below hb hk.lt
      replace hB := hB.trans (hb.mono hB.size)
      clear hb
      have q0 := hk.cell_ 0 rfl
      have q1 := hk.cell_ 1 rfl
      have q2 := hk.cell_ 2 rfl
      have q3 := hk.cell_ 3 rfl
      rw [HQ.out]
      clear d0 d1 d2 d3
      cases v
      · have HV : Hid ((!shT m t) = true) := by show _ = _; rw [HA.out, all_drop HT.out, HQ.out]; rfl
        go_wp2_with fail
        go_ret
        exact ⟨ret_bool HV.out.symm, hB⟩
      · have HA2 : Hid (shT m t = (t.ts.drop (i + 1)).all (shT l)) := by show _ = _; rw [HA.out, all_drop HT.out, HQ.out]; rfl
        go_wp2_with fail
        go_roundw
        case rel => exact ⟨i + 1, by go_num, by omega, HA2, hk, hB⟩
        case measure => simp [intOf]; omega
    · obtain rfl : i = t.ts.length := by omega
      have HV : Hid ((!shT m t) = false) := by show _ = _; rw [HA.out, List.drop_length]; rfl
      have q0 := hk.cell_ 0 rfl
      have q1 := hk.cell_ 1 rfl
      have q2 := hk.cell_ 2 rfl
      have q3 := hk.cell_ 3 rfl
      go_wp2_with fail
      go_ret
      exact ⟨ret_bool HV.out.symm, hB⟩
theorem shal_all : ∀ l, l ≤ 1000 → ShalAt l
  | 0, _ => shal_zero
  | l + 1, h => shal_step l (by omega) (shal_all l (by omega))
theorem rdeep_all : ∀ l, l ≤ 1000 → RDeepAt l
  | 0, _ => rdeep_zero
  | l + 1, h => rdeep_step l (by omega) (rdeep_all l (by omega))
set_option maxRecDepth 100000 in
set_option maxHeartbeats 4000000 in
theorem formed_any (op n pc : Int) (A : Option Addr) (k c : Nat) (w : World) :
    Calls Tryd.prog 99 #[.agg #[.int .i64 op, .int .i64 n, .int .u8 pc, .slice A k c]] w fun e w' => e = .returned (.bool (formF op n pc k)) ∧ Below w.heap.size w w' := by
  have hk := Blk.new w 60 #[.int .i64 op, .int .i64 n, .int .u8 pc, .slice A k c]
  have hB := (Below.refl w.heap.size w).alloc (Nat.le_refl _) (.cells #[.int .i64 op, .int .i64 n, .int .u8 pc, .slice A k c] 60)
  go_enter Tryd.func99, Tryd.ntmps99
  go_upto_region 1 with fail
  generalize w.alloc (.cells #[.int .i64 op, .int .i64 n, .int .u8 pc, .slice A k c] 60) = W at *
  have q0 := hk.cell_ 0 rfl
  have q1 := hk.cell_ 1 rfl
  have q2 := hk.cell_ 2 rfl
  have q3 := hk.cell_ 3 rfl
  by_cases o0 : op = 0
  · have g0 : (op == 0) = true := by simp [o0]
    by_cases n0 : n = 0
    · have g1 : (n == 0) = true := by simp [n0]
      by_cases p0 : pc = 0
      · have g2 : (pc == 0) = true := by simp [p0]
        by_cases k0 : k = 0
        · have g3 : ((k : Int) == 0) = true := by simp [k0]
          have HV : Hid (formF op n pc k = true) := by
            show _ = _
            unfold formF
            rw [if_pos o0, decide_eq_true n0, decide_eq_true p0, decide_eq_true k0]; rfl
          try clear o0
          try clear o1
          try clear o2
          try clear o3
          try clear n0
          try clear p0
          try clear k0
          go_wp2_with fail
          go_ret
          exact ⟨ret_bool HV.out.symm, hB⟩
        · have g3 : ((k : Int) == 0) = false := by simp [k0]
          have HV : Hid (formF op n pc k = false) := by
            show _ = _
            unfold formF
            rw [if_pos o0, decide_eq_true n0, decide_eq_true p0, decide_eq_false k0]; rfl
          try clear o0
          try clear o1
          try clear o2
          try clear o3
          try clear n0
          try clear p0
          try clear k0
          go_wp2_with fail
          go_ret
          exact ⟨ret_bool HV.out.symm, hB⟩
      · have g2 : (pc == 0) = false := by simp [p0]
        have HV : Hid (formF op n pc k = false) := by
          show _ = _
          unfold formF
          rw [if_pos o0, decide_eq_true n0, decide_eq_false p0]; rfl
        try clear o0
        try clear o1
        try clear o2
        try clear o3
        try clear n0
        try clear p0
        try clear k0
        go_wp2_with fail
        go_ret
        exact ⟨ret_bool HV.out.symm, hB⟩
    · have g1 : (n == 0) = false := by simp [n0]
      have HV : Hid (formF op n pc k = false) := by
        show _ = _
        unfold formF
        rw [if_pos o0, decide_eq_false n0]; rfl
      try clear o0
      try clear o1
      try clear o2
      try clear o3
      try clear n0
      try clear p0
      try clear k0
      go_wp2_with fail
      go_ret
      exact ⟨ret_bool HV.out.symm, hB⟩
  · have g0 : (op == 0) = false := by simp [o0]
    by_cases o1 : op = 1
    · have g0' : (op == 1) = true := by simp [o1]
      by_cases n0 : n = 0
      · have g1 : (n == 0) = true := by simp [n0]
        by_cases p97 : 97 ≤ pc
        · by_cases p122 : pc ≤ 122
          · by_cases k0 : k = 0
            · have g3 : ((k : Int) == 0) = true := by simp [k0]
              have HV : Hid (formF op n pc k = true) := by
                show _ = _
                unfold formF
                rw [if_neg o0, if_pos o1, decide_eq_true n0, decide_eq_true p97, decide_eq_true p122, decide_eq_true k0]; rfl
              try clear o0
              try clear o1
              try clear o2
              try clear o3
              try clear n0
              try clear p0
              try clear k0
              go_wp2_with fail
              go_ret
              exact ⟨ret_bool HV.out.symm, hB⟩
            · have g3 : ((k : Int) == 0) = false := by simp [k0]
              have HV : Hid (formF op n pc k = false) := by
                show _ = _
                unfold formF
                rw [if_neg o0, if_pos o1, decide_eq_true n0, decide_eq_true p97, decide_eq_true p122, decide_eq_false k0]; rfl
              try clear o0
              try clear o1
              try clear o2
              try clear o3
              try clear n0
              try clear p0
              try clear k0
              go_wp2_with fail
              go_ret
              exact ⟨ret_bool HV.out.symm, hB⟩
          · have g2 : decide (pc ≤ 122) = false := decide_eq_false p122
            have HV : Hid (formF op n pc k = false) := by
              show _ = _
              unfold formF
              rw [if_neg o0, if_pos o1, decide_eq_true n0, decide_eq_true p97, decide_eq_false p122]; rfl
            try clear o0
            try clear o1
            try clear o2
            try clear o3
            try clear n0
            try clear p0
            try clear k0
            go_wp2_with fail
            go_ret
            exact ⟨ret_bool HV.out.symm, hB⟩
        · have g2 : decide (97 ≤ pc) = false := decide_eq_false p97
          have HV : Hid (formF op n pc k = false) := by
            show _ = _
            unfold formF
            rw [if_neg o0, if_pos o1, decide_eq_true n0, decide_eq_false p97]; rfl
          try clear o0
          try clear o1
          try clear o2
          try clear o3
          try clear n0
          try clear p0
          try clear k0
          go_wp2_with fail
          go_ret
          exact ⟨ret_bool HV.out.symm, hB⟩
      · have g1 : (n == 0) = false := by simp [n0]
        have HV : Hid (formF op n pc k = false) := by
          show _ = _
          unfold formF
          rw [if_neg o0, if_pos o1, decide_eq_false n0]; rfl
        try clear o0
        try clear o1
        try clear o2
        try clear o3
        try clear n0
        try clear p0
        try clear k0
        go_wp2_with fail
        go_ret
        exact ⟨ret_bool HV.out.symm, hB⟩
    · have g0' : (op == 1) = false := by simp [o1]
      by_cases o2 : op = 2
      · have g0'' : (op == 2) = true := by simp [o2]
        cases q1 : inB 1 n 1000
        case false =>
          have HV : Hid (formF op n pc k = false) := by
            show _ = _
            have e : (decide (1 ≤ n) && decide (n ≤ 1000)) = false := q1
            unfold formF
            rw [if_neg (by omega), if_neg (by omega), if_pos (by omega), e]; rfl
          go_wp2_with fail
          refine (kwithin_is 1 n 1000 _ q1).mono ?_
          rintro e W' ⟨rfl, rfl⟩
          clear q1
          go_wp2_with fail
          go_ret
          exact ⟨ret_bool HV.out.symm, hB⟩
        case true =>
          have e : (decide (1 ≤ n) && decide (n ≤ 1000)) = true := q1
          by_cases p0 : pc = 0
          · have g1 : (pc == 0) = true := by simp [p0]
            by_cases k2 : k = 2
            · have g2 : ((k : Int) == 2) = true := by simp [k2]
              have HV : Hid (formF op n pc k = true) := by
                show _ = _
                unfold formF
                rw [if_neg (by omega), if_neg (by omega), if_pos (by omega), e, decide_eq_true p0, decide_eq_true k2]; rfl
              clear e p0 k2 o0
              go_wp2_with fail
              refine (kwithin_is 1 n 1000 _ q1).mono ?_
              rintro e W' ⟨rfl, rfl⟩
              clear q1
              go_wp2_with fail
              go_ret
              exact ⟨ret_bool HV.out.symm, hB⟩
            · have g2 : ((k : Int) == 2) = false := by simp; omega
              have HV : Hid (formF op n pc k = false) := by
                show _ = _
                unfold formF
                rw [if_neg (by omega), if_neg (by omega), if_pos (by omega), e, decide_eq_true p0, decide_eq_false k2]; rfl
              clear e p0 k2 o0
              go_wp2_with fail
              refine (kwithin_is 1 n 1000 _ q1).mono ?_
              rintro e W' ⟨rfl, rfl⟩
              clear q1
              go_wp2_with fail
              go_ret
              exact ⟨ret_bool HV.out.symm, hB⟩
          · have g1 : (pc == 0) = false := by simp [p0]
            have HV : Hid (formF op n pc k = false) := by
              show _ = _
              unfold formF
              rw [if_neg (by omega), if_neg (by omega), if_pos (by omega), e, decide_eq_false p0]; rfl
            clear e p0 o0
            go_wp2_with fail
            refine (kwithin_is 1 n 1000 _ q1).mono ?_
            rintro e W' ⟨rfl, rfl⟩
            clear q1
            go_wp2_with fail
            go_ret
            exact ⟨ret_bool HV.out.symm, hB⟩
      · have g0'' : (op == 2) = false := by simp [o2]
        by_cases o3 : op = 3
        · have g3' : (op == 3) = true := by simp [o3]
          cases q1 : inB 1 n 1000
          case false =>
            have HV : Hid (formF op n pc k = false) := by
              show _ = _
              have e : (decide (1 ≤ n) && decide (n ≤ 1000)) = false := q1
              unfold formF
              rw [if_neg (by omega), if_neg (by omega), if_pos (by omega), e]; rfl
            go_wp2_with fail
            refine (kwithin_is 1 n 1000 _ q1).mono ?_
            rintro e W' ⟨rfl, rfl⟩
            clear q1
            go_wp2_with fail
            go_ret
            exact ⟨ret_bool HV.out.symm, hB⟩
          case true =>
            have e : (decide (1 ≤ n) && decide (n ≤ 1000)) = true := q1
            by_cases p0 : pc = 0
            · have g1 : (pc == 0) = true := by simp [p0]
              by_cases k2 : k = 2
              · have g2 : ((k : Int) == 2) = true := by simp [k2]
                have HV : Hid (formF op n pc k = true) := by
                  show _ = _
                  unfold formF
                  rw [if_neg (by omega), if_neg (by omega), if_pos (by omega), e, decide_eq_true p0, decide_eq_true k2]; rfl
                clear e p0 k2 o0
                go_wp2_with fail
                refine (kwithin_is 1 n 1000 _ q1).mono ?_
                rintro e W' ⟨rfl, rfl⟩
                clear q1
                go_wp2_with fail
                go_ret
                exact ⟨ret_bool HV.out.symm, hB⟩
              · have g2 : ((k : Int) == 2) = false := by simp; omega
                have HV : Hid (formF op n pc k = false) := by
                  show _ = _
                  unfold formF
                  rw [if_neg (by omega), if_neg (by omega), if_pos (by omega), e, decide_eq_true p0, decide_eq_false k2]; rfl
                clear e p0 k2 o0
                go_wp2_with fail
                refine (kwithin_is 1 n 1000 _ q1).mono ?_
                rintro e W' ⟨rfl, rfl⟩
                clear q1
                go_wp2_with fail
                go_ret
                exact ⟨ret_bool HV.out.symm, hB⟩
            · have g1 : (pc == 0) = false := by simp [p0]
              have HV : Hid (formF op n pc k = false) := by
                show _ = _
                unfold formF
                rw [if_neg (by omega), if_neg (by omega), if_pos (by omega), e, decide_eq_false p0]; rfl
              clear e p0 o0
              go_wp2_with fail
              refine (kwithin_is 1 n 1000 _ q1).mono ?_
              rintro e W' ⟨rfl, rfl⟩
              clear q1
              go_wp2_with fail
              go_ret
              exact ⟨ret_bool HV.out.symm, hB⟩
        · have g3' : (op == 3) = false := by simp [o3]
          have HV : Hid (formF op n pc k = false) := by
            show _ = _
            unfold formF
            rw [if_neg o0, if_neg o1, if_neg (by omega)]
          try clear o0
          try clear o1
          try clear o2
          try clear o3
          try clear n0
          try clear p0
          try clear k0
          go_wp2_with fail
          go_ret
          exact ⟨ret_bool HV.out.symm, hB⟩
end Go.Proofs.YtecaaimaeaocbaaDoor
