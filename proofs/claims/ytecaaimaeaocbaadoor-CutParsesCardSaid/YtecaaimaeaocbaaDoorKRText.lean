/- The text of a tree in the document: digits, right, text. -/
import Derived.Test.YtecaaimaeaocbaaDoorKWrite
namespace Go.Proofs.YtecaaimaeaocbaaDoor
open Go Go.RowKit
theorem enc_ascii (n : Nat) (h : n < 128) : Utf8.encode (n : Int) = ⟨#[UInt8.ofNat n]⟩ := by
  have hv : Utf8.valid (n : Int) = true := by
    unfold Utf8.valid
    simp; omega
  unfold Utf8.encode
  simp only [hv, if_true, Int.toNat_natCast]
  rw [if_pos (by omega)]
theorem ba_ext {a b : ByteArray} (h : byt a = byt b) : a = b := ByteArray.ext (Array.toList_inj.1 h)
theorem digS_low {n : Nat} (h : n < 10) : digS n = ⟨#[UInt8.ofNat (48 + n)]⟩ := by unfold digS; rw [digT_low h]
theorem digS_high {n : Nat} (h : ¬ n < 10) : digS n = digS (n / 10) ++ ⟨#[UInt8.ofNat (48 + n % 10)]⟩ := by
  apply ba_ext
  rw [byt_cat, byt_digS, byt_digS, digT_high h]; rfl
theorem digS_size (n : Nat) (h : n ≤ 1000) : (digS n).size ≤ 4 := by rw [← byt_len, byt_digS]; exact digT_short h
set_option maxRecDepth 100000 in
set_option maxHeartbeats 1000000 in
theorem digits_any : ∀ (n : Nat), n ≤ 1000 → ∀ w : World, Calls Tryd.prog 103 #[.int .i64 n] w fun e w' => e = .returned (.string (digS n)) ∧ w = w' := by
  intro n
  induction n using Nat.strongRecOn with
  | ind n ih =>
    intro hn w
    by_cases h10 : n < 10
    · have f1 : (n : Int) < 10 := by omega
      obtain ⟨x, hx⟩ : ∃ x, 48 + n = x := ⟨_, rfl⟩
      have e1 : IntKind.i64.wrap (48 + (n : Int)) = (x : Int) := by rw [IntWalk.i64_in _ (by omega)]; omega
      have e2 : IntKind.i32.wrap (x : Int) = (x : Int) := by rw [IntKind.wrap_i32]; omega
      have e3 : Utf8.encode (x : Int) = digS n := by rw [enc_ascii x (by omega), digS_low h10, hx]
      obtain ⟨D, hD⟩ : ∃ D, digS n = D := ⟨_, rfl⟩
      rw [hD] at e3 ⊢
      clear hx hD ih h10 hn
      go_enter Tryd.func103, Tryd.ntmps103
      go_wp2_with fail
      go_ret
      exact ⟨rfl, rfl⟩
    · have f1 : ¬ (n : Int) < 10 := by omega
      obtain ⟨q, hq⟩ : ∃ q, n / 10 = q := ⟨_, rfl⟩
      obtain ⟨r, hr⟩ : ∃ r, n % 10 = r := ⟨_, rfl⟩
      obtain ⟨x, hx⟩ : ∃ x, 48 + r = x := ⟨_, rfl⟩
      have e0 : (n : Int).tdiv 10 = (q : Int) := by rw [Int.tdiv_eq_ediv_of_nonneg (by omega)]; omega
      have e0w : IntKind.i64.wrap (q : Int) = (q : Int) := IntWalk.i64_in _ (by omega)
      have e1 : (n : Int).tmod 10 = (r : Int) := by rw [Int.tmod_eq_emod_of_nonneg (by omega)]; omega
      have e1w : IntKind.i64.wrap (r : Int) = (r : Int) := IntWalk.i64_in _ (by omega)
      have e2 : IntKind.i64.wrap (48 + (r : Int)) = (x : Int) := by rw [IntWalk.i64_in _ (by omega)]; omega
      have e3 : IntKind.i32.wrap (x : Int) = (x : Int) := by rw [IntKind.wrap_i32]; omega
      have HH := hide (ih q (by omega) (by omega))
      obtain ⟨E, hE⟩ : ∃ E : ByteArray, (⟨#[UInt8.ofNat x]⟩ : ByteArray) = E := ⟨_, rfl⟩
      have e4 : Utf8.encode (x : Int) = E := by rw [enc_ascii x (by omega)]; exact hE
      have hsz := digS_size q (by omega)
      have e5 : ¬ 9223372036854775807 < (digS q).size + E.size := by
        have : E.size = 1 := by rw [← hE]; rfl
        omega
      have e6 : digS n = digS q ++ E := by rw [digS_high h10, hq, ← hE, ← hx, hr]
      obtain ⟨D, hD⟩ : ∃ D, digS n = D := ⟨_, rfl⟩
      rw [hD] at e6 ⊢
      have e7 : digS q ++ E = D := e6.symm
      clear hq hr hx hE e6 hD ih h10 hn hsz
      go_enter Tryd.func103, Tryd.ntmps103
      go_wp2_with fail
      refine (HH.out w).mono ?_
      rintro e w' ⟨rfl, rfl⟩
      go_wp2_with fail
      go_ret
      exact ⟨rfl, rfl⟩
def RRightAt (f : Nat) : Prop := ∀ (t : Tree) (op n pc : Int) (A : Option Addr) (k c L : Nat) (w : World), TreeAt w L w.heap.size f t ⟨op, n, pc, A, k, c⟩ →
  Calls Tryd.prog 82 #[.agg #[.int .i64 op, .int .i64 n, .int .u8 pc, .slice A k c]] w fun e w' => e = .returned (.bool (rtT f t)) ∧ Below w.heap.size w w'
theorem rt_no {f : Nat} {t : Tree} (h : formB t = false) : rtT (f + 1) t = false := by
  show (formB t && t.ts.all (rtT f)) = false
  rw [h]; rfl
theorem rt_leaf {f : Nat} {t : Tree} (h : formB t = true) (h0 : t.ts = []) : rtT (f + 1) t = true := by
  show (formB t && t.ts.all (rtT f)) = true
  rw [h, h0]; rfl
theorem rt_two {f : Nat} {t a b : Tree} (h : formB t = true) (h0 : t.ts = [a, b]) : rtT (f + 1) t = (rtT f a && rtT f b) := by
  show (formB t && t.ts.all (rtT f)) = _
  rw [h, h0, List.all_cons, List.all_cons, List.all_nil, Bool.and_true, Bool.true_and]
set_option maxRecDepth 100000 in
set_option maxHeartbeats 8000000 in
theorem rright_step (f : Nat) (H : RRightAt f) : RRightAt (f + 1) := by
  intro t op n pc A k c L w hT
  obtain ⟨h1, h2, h3, h4, h5⟩ := hT.head
  dsimp only at h1 h2 h3 h4
  subst h4
  have HFB : Hid (formF op n pc t.ts.length = formB t) := by
    show _ = formF _ _ _ _
    rw [h1, h2, h3]
  have HH := hide H
  clear h1 h2 h3 H
  have hk := Blk.new w 60 #[.int .i64 op, .int .i64 n, .int .u8 pc, .slice A t.ts.length c]
  have hB := (Below.refl w.heap.size w).alloc (Nat.le_refl _) (.cells #[.int .i64 op, .int .i64 n, .int .u8 pc, .slice A t.ts.length c] 60)
  go_enter Tryd.func82, Tryd.ntmps82
  go_upto_region 1 with fail
  generalize w.alloc (.cells #[.int .i64 op, .int .i64 n, .int .u8 pc, .slice A t.ts.length c] 60) = W at *
  have u0 := hk.cell_ 0 rfl
  have u1 := hk.cell_ 1 rfl
  have u2 := hk.cell_ 2 rfl
  have u3 := hk.cell_ 3 rfl
  by_cases o0 : op = 0
  · have g0 : (op == 0) = true := by simp [o0]
    by_cases n0 : n = 0
    · have g1 : (n == 0) = true := by simp [n0]
      by_cases p0 : pc = 0
      · have g2 : (pc == 0) = true := by simp [p0]
        by_cases k0 : t.ts.length = 0
        · have g3 : ((t.ts.length : Int) == 0) = true := by simp [k0]
          have HV : Hid (rtT (f + 1) t = true) := by
            have HFV : formF op n pc t.ts.length = true := by
              unfold formF
              rw [if_pos o0, decide_eq_true n0, decide_eq_true p0, decide_eq_true k0]; rfl
            show _ = _
            rw [HFB.out] at HFV
            exact rt_leaf HFV (List.length_eq_zero_iff.1 k0)
          try clear o0
          try clear o1
          try clear o2
          try clear o3
          try clear n0
          try clear p0
          try clear k0
          go_wp2_with fail
          go_ret
          exact ⟨ret_bool HV.out.symm, hB⟩
        · have g3 : ((t.ts.length : Int) == 0) = false := by rw [beq_eq_false_iff_ne]; omega
          have HV : Hid (rtT (f + 1) t = false) := by
            have HFV : formF op n pc t.ts.length = false := by
              unfold formF
              rw [if_pos o0, decide_eq_true n0, decide_eq_true p0, decide_eq_false k0]; rfl
            show _ = _
            rw [HFB.out] at HFV
            exact rt_no HFV
          try clear o0
          try clear o1
          try clear o2
          try clear o3
          try clear n0
          try clear p0
          try clear k0
          go_wp2_with fail
          go_ret
          exact ⟨ret_bool HV.out.symm, hB⟩
      · have g2 : (pc == 0) = false := by simp [p0]
        have HV : Hid (rtT (f + 1) t = false) := by
          have HFV : formF op n pc t.ts.length = false := by
            unfold formF
            rw [if_pos o0, decide_eq_true n0, decide_eq_false p0]; rfl
          show _ = _
          rw [HFB.out] at HFV
          exact rt_no HFV
        try clear o0
        try clear o1
        try clear o2
        try clear o3
        try clear n0
        try clear p0
        try clear k0
        go_wp2_with fail
        go_ret
        exact ⟨ret_bool HV.out.symm, hB⟩
    · have g1 : (n == 0) = false := by simp [n0]
      have HV : Hid (rtT (f + 1) t = false) := by
        have HFV : formF op n pc t.ts.length = false := by
          unfold formF
          rw [if_pos o0, decide_eq_false n0]; rfl
        show _ = _
        rw [HFB.out] at HFV
        exact rt_no HFV
      try clear o0
      try clear o1
      try clear o2
      try clear o3
      try clear n0
      try clear p0
      try clear k0
      go_wp2_with fail
      go_ret
      exact ⟨ret_bool HV.out.symm, hB⟩
  · have g0 : (op == 0) = false := by simp [o0]
    by_cases o1 : op = 1
    · have g0' : (op == 1) = true := by simp [o1]
      by_cases n0 : n = 0
      · have g1 : (n == 0) = true := by simp [n0]
        by_cases p97 : 97 ≤ pc
        · by_cases p122 : pc ≤ 122
          · by_cases k0 : t.ts.length = 0
            · have g3 : ((t.ts.length : Int) == 0) = true := by simp [k0]
              have HV : Hid (rtT (f + 1) t = true) := by
                have HFV : formF op n pc t.ts.length = true := by
                  unfold formF
                  rw [if_neg o0, if_pos o1, decide_eq_true n0, decide_eq_true p97, decide_eq_true p122, decide_eq_true k0]; rfl
                show _ = _
                rw [HFB.out] at HFV
                exact rt_leaf HFV (List.length_eq_zero_iff.1 k0)
              try clear o0
              try clear o1
              try clear o2
              try clear o3
              try clear n0
              try clear p0
              try clear k0
              go_wp2_with fail
              go_ret
              exact ⟨ret_bool HV.out.symm, hB⟩
            · have g3 : ((t.ts.length : Int) == 0) = false := by rw [beq_eq_false_iff_ne]; omega
              have HV : Hid (rtT (f + 1) t = false) := by
                have HFV : formF op n pc t.ts.length = false := by
                  unfold formF
                  rw [if_neg o0, if_pos o1, decide_eq_true n0, decide_eq_true p97, decide_eq_true p122, decide_eq_false k0]; rfl
                show _ = _
                rw [HFB.out] at HFV
                exact rt_no HFV
              try clear o0
              try clear o1
              try clear o2
              try clear o3
              try clear n0
              try clear p0
              try clear k0
              go_wp2_with fail
              go_ret
              exact ⟨ret_bool HV.out.symm, hB⟩
          · have g2 : decide (pc ≤ 122) = false := decide_eq_false p122
            have HV : Hid (rtT (f + 1) t = false) := by
              have HFV : formF op n pc t.ts.length = false := by
                unfold formF
                rw [if_neg o0, if_pos o1, decide_eq_true n0, decide_eq_true p97, decide_eq_false p122]; rfl
              show _ = _
              rw [HFB.out] at HFV
              exact rt_no HFV
            try clear o0
            try clear o1
            try clear o2
            try clear o3
            try clear n0
            try clear p0
            try clear k0
            go_wp2_with fail
            go_ret
            exact ⟨ret_bool HV.out.symm, hB⟩
        · have g2 : decide (97 ≤ pc) = false := decide_eq_false p97
          have HV : Hid (rtT (f + 1) t = false) := by
            have HFV : formF op n pc t.ts.length = false := by
              unfold formF
              rw [if_neg o0, if_pos o1, decide_eq_true n0, decide_eq_false p97]; rfl
            show _ = _
            rw [HFB.out] at HFV
            exact rt_no HFV
          try clear o0
          try clear o1
          try clear o2
          try clear o3
          try clear n0
          try clear p0
          try clear k0
          go_wp2_with fail
          go_ret
          exact ⟨ret_bool HV.out.symm, hB⟩
      · have g1 : (n == 0) = false := by simp [n0]
        have HV : Hid (rtT (f + 1) t = false) := by
          have HFV : formF op n pc t.ts.length = false := by
            unfold formF
            rw [if_neg o0, if_pos o1, decide_eq_false n0]; rfl
          show _ = _
          rw [HFB.out] at HFV
          exact rt_no HFV
        try clear o0
        try clear o1
        try clear o2
        try clear o3
        try clear n0
        try clear p0
        try clear k0
        go_wp2_with fail
        go_ret
        exact ⟨ret_bool HV.out.symm, hB⟩
    · have g0' : (op == 1) = false := by simp [o1]
      by_cases o2 : op = 2
      · have g0'' : (op == 2) = true := by simp [o2]
        cases q1 : inB 1 n 1000
        case false =>
          have HV : Hid (rtT (f + 1) t = false) := by
            have e : (decide (1 ≤ n) && decide (n ≤ 1000)) = false := q1
            refine rt_no ?_
            rw [← HFB.out]
            unfold formF
            rw [if_neg (by omega), if_neg (by omega), if_pos (by omega), e]; rfl
          go_wp2_with fail
          refine (kfrom_is 1 n 1000 _ q1).mono ?_
          rintro e W' ⟨rfl, rfl⟩
          clear q1
          go_wp2_with fail
          go_ret
          exact ⟨ret_bool HV.out.symm, hB⟩
        case true =>
          have e : (decide (1 ≤ n) && decide (n ≤ 1000)) = true := q1
          by_cases p0 : pc = 0
          · have g1 : (pc == 0) = true := by simp [p0]
            by_cases k2 : t.ts.length = 2
            · have g2 : ((t.ts.length : Int) == 2) = true := by simp [k2]
              have HFT : Hid (formB t = true) := by
                show _ = _
                rw [← HFB.out]
                unfold formF
                rw [if_neg (by omega), if_neg (by omega), if_pos (by omega), e, decide_eq_true p0, decide_eq_true k2]; rfl
              obtain ⟨ta, tb, htt⟩ : ∃ a b, t.ts = [a, b] := by
                match hts : t.ts, k2 with
                | [a, b], _ => exact ⟨a, b, rfl⟩
              have HTS := hide htt
              have hfew0 : (0 : Int) < (t.ts.length : Int) := by omega
              have hfew1 : (1 : Int) < (t.ts.length : Int) := by omega
              clear e p0 k2 o0 htt
              obtain ⟨va, hva⟩ : ∃ va, rtT f ta = va := ⟨_, rfl⟩
              have HVA := hide hva
              obtain ⟨vb, hvb⟩ : ∃ vb, rtT f tb = vb := ⟨_, rfl⟩
              have HVB := hide hvb
              have HR : Hid (rtT (f + 1) t = (va && vb)) := by show _ = _; rw [rt_two HFT.out HTS.out, HVA.out, HVB.out]
              clear hva hvb
              obtain ⟨t', o1, n1, p1, A1, k1, d1, pb, off, ht, hA, _, hT1, e0, e1, e2, e3⟩ := part_at (hT.on hB) (i := 0) (by rw [HTS.out]; simp)
              obtain ⟨t'', o2', n2, p2, A2, k2', d2, pb', off', ht2, hA2, _, hT2, x0, x1, x2, x3⟩ := part_at (hT.on hB) (i := 1) (by rw [HTS.out]; simp)
              rw [HTS.out] at ht ht2
              injection ht with ht
              injection ht2 with ht2
              dsimp only at hA hA2
              rw [hA] at hA2
              injection hA2 with hA2
              injection hA2 with hA21 hA22
              subst ht ht2 hA21 hA22 hA
              have u0 := hk.cell_ 0 rfl
              have u1 := hk.cell_ 1 rfl
              have u2 := hk.cell_ 2 rfl
              have u3 := hk.cell_ 3 rfl
              simp only [Nat.zero_mul, Nat.add_zero] at e0 e1 e2 e3
              simp only [Nat.one_mul] at x0 x1 x2 x3
              have x1' := x1
              have x2' := x2
              have x3' := x3
              simp only [Nat.add_assoc, Nat.reduceAdd] at x1' x2' x3'
              go_wp2_with fail
              refine (kfrom_is 1 n 1000 _ q1).mono ?_
              rintro e W' ⟨rfl, rfl⟩
              clear q1
              have T2 := hT2
              go_wp2_with fail
              refine (HH.out _ o1 n1 p1 A1 k1 d1 L _ hT1).mono ?_
              rintro e W ⟨rfl, hb⟩
              clear u0 u1 u2 u3
              replace hk := hk.below hb hk.lt
              replace T2 := TreeAt.on T2 hb
              replace hB := hB.trans (hb.mono hB.size)
              clear hb
              have u0 := hk.cell_ 0 rfl
              have u1 := hk.cell_ 1 rfl
              have u2 := hk.cell_ 2 rfl
              have u3 := hk.cell_ 3 rfl
              rw [HVA.out]
              clear e0 e1 e2 e3 x0 x1 x2 x3 x1' x2' x3' hT1 hT2
              cases va with
              | false =>
                go_wp2_with fail
                go_ret
                exact ⟨ret_bool HR.out.symm, hB⟩
              | true =>
                obtain ⟨t3, o3', n3, p3, A3, k3', d3, pb3, off3, ht3, hA3, _, hT3, x0, x1, x2, x3⟩ := part_at (hT.on hB) (i := 1) (by rw [HTS.out]; simp)
                rw [HTS.out] at ht3
                injection ht3 with ht3
                dsimp only at hA3
                injection hA3 with hA3
                injection hA3 with hA31 hA32
                subst ht3 hA31 hA32
                simp only [Nat.one_mul] at x0 x1 x2 x3
                have x1' := x1
                have x2' := x2
                have x3' := x3
                simp only [Nat.add_assoc, Nat.reduceAdd] at x1' x2' x3'
                clear T2
                go_wp2_with fail
                refine (HH.out _ o3' n3 p3 A3 k3' d3 L _ hT3).mono ?_
                rintro e W ⟨rfl, hb⟩
                clear u0 u1 u2 u3
                replace hk := hk.below hb hk.lt
                replace hB := hB.trans (hb.mono hB.size)
                clear hb
                have u0 := hk.cell_ 0 rfl
                have u1 := hk.cell_ 1 rfl
                have u2 := hk.cell_ 2 rfl
                have u3 := hk.cell_ 3 rfl
                rw [HVB.out]
                clear x0 x1 x2 x3 x1' x2' x3' hT3
                go_wp2_with fail
                go_ret
                exact ⟨ret_bool HR.out.symm, hB⟩
            · have g2 : ((t.ts.length : Int) == 2) = false := by rw [beq_eq_false_iff_ne]; omega
              have HV : Hid (rtT (f + 1) t = false) := by
                refine rt_no ?_
                rw [← HFB.out]
                unfold formF
                rw [if_neg (by omega), if_neg (by omega), if_pos (by omega), e, decide_eq_true p0, decide_eq_false k2]; rfl
              clear e p0 k2 o0
              go_wp2_with fail
              refine (kfrom_is 1 n 1000 _ q1).mono ?_
              rintro e W' ⟨rfl, rfl⟩
              clear q1
              go_wp2_with fail
              go_ret
              exact ⟨ret_bool HV.out.symm, hB⟩
          · have g1 : (pc == 0) = false := by simp [p0]
            have HV : Hid (rtT (f + 1) t = false) := by
              refine rt_no ?_
              rw [← HFB.out]
              unfold formF
              rw [if_neg (by omega), if_neg (by omega), if_pos (by omega), e, decide_eq_false p0]; rfl
            clear e p0 o0
            go_wp2_with fail
            refine (kfrom_is 1 n 1000 _ q1).mono ?_
            rintro e W' ⟨rfl, rfl⟩
            clear q1
            go_wp2_with fail
            go_ret
            exact ⟨ret_bool HV.out.symm, hB⟩
      · have g0'' : (op == 2) = false := by simp [o2]
        by_cases o3 : op = 3
        · have g3' : (op == 3) = true := by simp [o3]
          cases q1 : inB 1 n 1000
          case false =>
            have HV : Hid (rtT (f + 1) t = false) := by
              have e : (decide (1 ≤ n) && decide (n ≤ 1000)) = false := q1
              refine rt_no ?_
              rw [← HFB.out]
              unfold formF
              rw [if_neg (by omega), if_neg (by omega), if_pos (by omega), e]; rfl
            go_wp2_with fail
            refine (kfrom_is 1 n 1000 _ q1).mono ?_
            rintro e W' ⟨rfl, rfl⟩
            clear q1
            go_wp2_with fail
            go_ret
            exact ⟨ret_bool HV.out.symm, hB⟩
          case true =>
            have e : (decide (1 ≤ n) && decide (n ≤ 1000)) = true := q1
            by_cases p0 : pc = 0
            · have g1 : (pc == 0) = true := by simp [p0]
              by_cases k2 : t.ts.length = 2
              · have g2 : ((t.ts.length : Int) == 2) = true := by simp [k2]
                have HFT : Hid (formB t = true) := by
                  show _ = _
                  rw [← HFB.out]
                  unfold formF
                  rw [if_neg (by omega), if_neg (by omega), if_pos (by omega), e, decide_eq_true p0, decide_eq_true k2]; rfl
                obtain ⟨ta, tb, htt⟩ : ∃ a b, t.ts = [a, b] := by
                  match hts : t.ts, k2 with
                  | [a, b], _ => exact ⟨a, b, rfl⟩
                have HTS := hide htt
                have hfew0 : (0 : Int) < (t.ts.length : Int) := by omega
                have hfew1 : (1 : Int) < (t.ts.length : Int) := by omega
                clear e p0 k2 o0 htt
                obtain ⟨va, hva⟩ : ∃ va, rtT f ta = va := ⟨_, rfl⟩
                have HVA := hide hva
                obtain ⟨vb, hvb⟩ : ∃ vb, rtT f tb = vb := ⟨_, rfl⟩
                have HVB := hide hvb
                have HR : Hid (rtT (f + 1) t = (va && vb)) := by show _ = _; rw [rt_two HFT.out HTS.out, HVA.out, HVB.out]
                clear hva hvb
                obtain ⟨t', o1, n1, p1, A1, k1, d1, pb, off, ht, hA, _, hT1, e0, e1, e2, e3⟩ := part_at (hT.on hB) (i := 0) (by rw [HTS.out]; simp)
                obtain ⟨t'', o2', n2, p2, A2, k2', d2, pb', off', ht2, hA2, _, hT2, x0, x1, x2, x3⟩ := part_at (hT.on hB) (i := 1) (by rw [HTS.out]; simp)
                rw [HTS.out] at ht ht2
                injection ht with ht
                injection ht2 with ht2
                dsimp only at hA hA2
                rw [hA] at hA2
                injection hA2 with hA2
                injection hA2 with hA21 hA22
                subst ht ht2 hA21 hA22 hA
                have u0 := hk.cell_ 0 rfl
                have u1 := hk.cell_ 1 rfl
                have u2 := hk.cell_ 2 rfl
                have u3 := hk.cell_ 3 rfl
                simp only [Nat.zero_mul, Nat.add_zero] at e0 e1 e2 e3
                simp only [Nat.one_mul] at x0 x1 x2 x3
                have x1' := x1
                have x2' := x2
                have x3' := x3
                simp only [Nat.add_assoc, Nat.reduceAdd] at x1' x2' x3'
                go_wp2_with fail
                refine (kfrom_is 1 n 1000 _ q1).mono ?_
                rintro e W' ⟨rfl, rfl⟩
                clear q1
                have T2 := hT2
                go_wp2_with fail
                refine (HH.out _ o1 n1 p1 A1 k1 d1 L _ hT1).mono ?_
                rintro e W ⟨rfl, hb⟩
                clear u0 u1 u2 u3
                replace hk := hk.below hb hk.lt
                replace T2 := TreeAt.on T2 hb
                replace hB := hB.trans (hb.mono hB.size)
                clear hb
                have u0 := hk.cell_ 0 rfl
                have u1 := hk.cell_ 1 rfl
                have u2 := hk.cell_ 2 rfl
                have u3 := hk.cell_ 3 rfl
                rw [HVA.out]
                clear e0 e1 e2 e3 x0 x1 x2 x3 x1' x2' x3' hT1 hT2
                cases va with
                | false =>
                  go_wp2_with fail
                  go_ret
                  exact ⟨ret_bool HR.out.symm, hB⟩
                | true =>
                  obtain ⟨t3, o3', n3, p3, A3, k3', d3, pb3, off3, ht3, hA3, _, hT3, x0, x1, x2, x3⟩ := part_at (hT.on hB) (i := 1) (by rw [HTS.out]; simp)
                  rw [HTS.out] at ht3
                  injection ht3 with ht3
                  dsimp only at hA3
                  injection hA3 with hA3
                  injection hA3 with hA31 hA32
                  subst ht3 hA31 hA32
                  simp only [Nat.one_mul] at x0 x1 x2 x3
                  have x1' := x1
                  have x2' := x2
                  have x3' := x3
                  simp only [Nat.add_assoc, Nat.reduceAdd] at x1' x2' x3'
                  clear T2
                  go_wp2_with fail
                  refine (HH.out _ o3' n3 p3 A3 k3' d3 L _ hT3).mono ?_
                  rintro e W ⟨rfl, hb⟩
                  clear u0 u1 u2 u3
                  replace hk := hk.below hb hk.lt
                  replace hB := hB.trans (hb.mono hB.size)
                  clear hb
                  have u0 := hk.cell_ 0 rfl
                  have u1 := hk.cell_ 1 rfl
                  have u2 := hk.cell_ 2 rfl
                  have u3 := hk.cell_ 3 rfl
                  rw [HVB.out]
                  clear x0 x1 x2 x3 x1' x2' x3' hT3
                  go_wp2_with fail
                  go_ret
                  exact ⟨ret_bool HR.out.symm, hB⟩
              · have g2 : ((t.ts.length : Int) == 2) = false := by rw [beq_eq_false_iff_ne]; omega
                have HV : Hid (rtT (f + 1) t = false) := by
                  refine rt_no ?_
                  rw [← HFB.out]
                  unfold formF
                  rw [if_neg (by omega), if_neg (by omega), if_pos (by omega), e, decide_eq_true p0, decide_eq_false k2]; rfl
                clear e p0 k2 o0
                go_wp2_with fail
                refine (kfrom_is 1 n 1000 _ q1).mono ?_
                rintro e W' ⟨rfl, rfl⟩
                clear q1
                go_wp2_with fail
                go_ret
                exact ⟨ret_bool HV.out.symm, hB⟩
            · have g1 : (pc == 0) = false := by simp [p0]
              have HV : Hid (rtT (f + 1) t = false) := by
                refine rt_no ?_
                rw [← HFB.out]
                unfold formF
                rw [if_neg (by omega), if_neg (by omega), if_pos (by omega), e, decide_eq_false p0]; rfl
              clear e p0 o0
              go_wp2_with fail
              refine (kfrom_is 1 n 1000 _ q1).mono ?_
              rintro e W' ⟨rfl, rfl⟩
              clear q1
              go_wp2_with fail
              go_ret
              exact ⟨ret_bool HV.out.symm, hB⟩
        · have g3' : (op == 3) = false := by simp [o3]
          have HV : Hid (rtT (f + 1) t = false) := by
            have HFV : formF op n pc t.ts.length = false := by
              unfold formF
              rw [if_neg o0, if_neg o1, if_neg (by omega)]
            show _ = _
            rw [HFB.out] at HFV
            exact rt_no HFV
          try clear o0
          try clear o1
          try clear o2
          try clear o3
          try clear n0
          try clear p0
          try clear k0
          go_wp2_with fail
          go_ret
          exact ⟨ret_bool HV.out.symm, hB⟩
theorem rright_all : ∀ f, RRightAt f
  | 0 => fun t op n pc A k c L w h => h.elim
  | f + 1 => rright_step f (rright_all f)
end Go.Proofs.YtecaaimaeaocbaaDoor
