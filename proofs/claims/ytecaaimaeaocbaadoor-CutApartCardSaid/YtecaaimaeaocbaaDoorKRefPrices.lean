/- prices, Dearest, Bound of the reference: the walks. -/
import Derived.Test.YtecaaimaeaocbaaDoorKPrices
namespace Go.Proofs.YtecaaimaeaocbaaDoor
open Go Go.RowKit
set_option maxRecDepth 100000 in
set_option maxHeartbeats 1000000 in
theorem refPrices_any (L K : Int) (A : Option Addr) (c : Nat) (l : List Ask) (AP : Option Addr) (cP : Nat) (ps : List Int) (w : World) (hS : Slc Ask.enc 2 w w.heap.size A l) (hP : Slc intEnc 1 w w.heap.size AP ps) (hl : ps.length ≤ 100000) :
    Calls Tryd.prog 57 #[.agg #[.int .i64 L, .int .i64 K, .slice A l.length c], .slice AP ps.length cP] w fun e w' => e = .returned (.int .i64 (dE L K l ps)) ∧ Below w.heap.size w w' := by
  have hk := Blk.new w 24 #[.int .i64 L, .int .i64 K, .slice A l.length c]
  have hB := (Below.refl w.heap.size w).alloc (Nat.le_refl _) (.cells #[.int .i64 L, .int .i64 K, .slice A l.length c] 24)
  go_enter Tryd.func57, Tryd.ntmps57
  go_upto_region 1 with fail
  generalize w.alloc (.cells #[.int .i64 L, .int .i64 K, .slice A l.length c] 24) = W at *
  have c0 := hk.cell_ 0 rfl
  have c1 := hk.cell_ 1 rfl
  have c2 := hk.cell_ 2 rfl
  go_wp2_with fail
  refine (refKValid_any L K A c l _ (hS.on hB)).mono ?_
  rintro e W ⟨rfl, hb⟩
  clear c0 c1 c2
  replace hk := hk.below hb hk.lt
  replace hB := hB.trans (hb.mono hB.size)
  clear hb
  have c0 := hk.cell_ 0 rfl
  have c1 := hk.cell_ 1 rfl
  have c2 := hk.cell_ 2 rfl
  cases hv : validK L K l
  case false =>
    have HE : Hid (dE L K l ps = 40) := by show _ = _; unfold dE; rw [hv]; rfl
    clear hv
    go_wp2_with fail
    go_ret
    exact ⟨ret_int HE.out.symm, hB⟩
  have HD : Hid (dE L K l ps = if pricedB l ps then 0 else 2) := by show _ = _; unfold dE; rw [hv]; rfl
  clear hv
  by_cases hq : ps.length = l.length
  · have hq2 : ((ps.length : Int) == (l.length : Int)) = true := by simp [hq]
    have hq3 : ((ps.length : Int) != (l.length : Int)) = false := by simp [hq]
    have HQ := hide hq
    clear hq
    go_wp2_with fail
    clear c0 c1 c2
    go_loopw [5] (fun y W => ∃ (i : Nat), y = .int .i64 i ∧ i ≤ ps.length ∧ Hid (pricesB ps = (ps.drop i).all fun p => inB 0 p 1000000) ∧ Blk W w.heap.size 24 #[.int .i64 L, .int .i64 K, .slice A l.length c] ∧ Below w.heap.size w W) (fun y _ => ps.length - (intOf y).toNat)
    case atStart => exact ⟨0, rfl, Nat.zero_le _, hide rfl, hk, hB⟩
    case round =>
      clear hk hB
      obtain ⟨W, rfl⟩ : ∃ W : World, W = wr := ⟨_, rfl⟩
      obtain ⟨i, rfl, hi, HA, hk, hB⟩ := hrel
      by_cases hlt : i < ps.length
      · obtain ⟨p, b, off, hp, hA, _, d0⟩ := ints_at' (hP.below hB) hlt
        have hii : (i : Int) < (ps.length : Int) := by omega
        have HX := hide hp
        clear hp
        subst hA
        have c0 := hk.cell_ 0 rfl
        have c1 := hk.cell_ 1 rfl
        have c2 := hk.cell_ 2 rfl
        cases q1 : inB 0 p 1000000
        case false =>
          have HV : Hid (dE L K l ps = 2) := by show _ = _; rw [HD.out]; unfold pricedB; rw [HA.out, all_drop HX.out, q1]; rfl
          go_wp2_with fail
          refine (kfrom_is 0 p 1000000 _ q1).mono ?_
          rintro e W' ⟨rfl, rfl⟩
          clear q1
          go_wp2_with fail
          go_ret
          exact ⟨ret_int HV.out.symm, hB⟩
        case true =>
          have HA2 : Hid (pricesB ps = (ps.drop (i + 1)).all fun p => inB 0 p 1000000) := by show _ = _; rw [HA.out, all_drop HX.out, q1, Bool.true_and]
          go_wp2_with fail
          refine (kfrom_is 0 p 1000000 _ q1).mono ?_
          rintro e W' ⟨rfl, rfl⟩
          clear q1
          go_wp2_with fail
          go_roundw
          case rel => exact ⟨i + 1, by go_num, by omega, HA2, hk, hB⟩
          case measure => simp [intOf]; omega
      · obtain rfl : i = ps.length := by omega
        have HV : Hid (dE L K l ps = 0) := by show _ = _; rw [HD.out]; unfold pricedB; rw [HA.out, List.drop_length, decide_eq_true HQ.out]; rfl
        have c0 := hk.cell_ 0 rfl
        have c1 := hk.cell_ 1 rfl
        have c2 := hk.cell_ 2 rfl
        go_wp2_with fail
        go_ret
        exact ⟨ret_int HV.out.symm, hB⟩
  · have hq2 : ((ps.length : Int) == (l.length : Int)) = false := by simp; omega
    have hq3 : ((ps.length : Int) != (l.length : Int)) = true := by simp; omega
    have HV : Hid (dE L K l ps = 2) := by show _ = _; rw [HD.out]; unfold pricedB; rw [decide_eq_false hq]; simp
    clear hq
    go_wp2_with fail
    go_ret
    exact ⟨ret_int HV.out.symm, hB⟩
def refTop (b : List Int) (wd : Nat) (p : Int) (r : Nat) : Nat → Int
  | 0 => 0
  | n + 1 => topK b wd p r n
theorem refTop_more {b : List Int} {wd : Nat} {p M : Int} {r n : Nat} (h : n * wd ≤ r) (hb : Low b M) (hM : 0 ≤ M) : refTop b wd p r (n + 1) = max (refTop b wd p r n) (b.getD (r - n * wd) 0 + (n : Int) * p) := by
  cases n with
  | zero =>
    have := hb.getD_ hM r
    have h0 : r - 0 * wd = r := by rw [Nat.zero_mul, Nat.sub_zero]
    rw [h0]
    show b.getD r 0 = max 0 (b.getD r 0 + ((0 : Nat) : Int) * p)
    rw [show ((0 : Nat) : Int) * p = 0 from Int.zero_mul p]
    omega
  | succ n => exact topK_more h
def RowToR (b : List Int) (wd : Nat) (p : Int) (cnt r : Nat) (N : List Int) : Prop := ∀ (q : Nat) v, N[q]? = some v → v = if q < r then topK b wd p q cnt else 0
def RowAtR (b : List Int) (wd : Nat) (p : Int) (cnt r n : Nat) (N : List Int) : Prop := ∀ (q : Nat) v, N[q]? = some v → v = if q < r then topK b wd p q cnt else if q = r then refTop b wd p r n else 0
section
variable {b N : List Int} {wd cnt r n : Nat} {p : Int}
theorem RowToR.start (m : Nat) : RowToR b wd p cnt 0 (List.replicate m 0) := fun q v hv => by
  rw [List.getElem?_replicate] at hv
  split at hv
  · injection hv with hv
    rw [if_neg (by omega), ← hv]
  · cases hv
theorem RowToR.at_ (h : RowToR b wd p cnt r N) : RowAtR b wd p cnt r 0 N := fun q v hv => by
  rw [h q v hv]
  by_cases h1 : q < r
  · rw [if_pos h1, if_pos h1]
  · rw [if_neg h1, if_neg h1]
    by_cases h2 : q = r
    · rw [if_pos h2]; rfl
    · rw [if_neg h2]
theorem RowAtR.set (h : RowAtR b wd p cnt r n N) {v : Int} (hv : v = refTop b wd p r (n + 1)) : RowAtR b wd p cnt r (n + 1) (N.set r v) := fun q u hu => by
  by_cases h1 : r = q
  · subst h1
    have hr : r < N.length := by have := (List.getElem?_eq_some_iff.1 hu).1; simpa using this
    rw [List.getElem?_set_self hr] at hu
    injection hu with hu
    rw [if_neg (by omega), if_pos rfl, ← hu, hv]
  · rw [List.getElem?_set_ne h1] at hu
    rw [h q u hu]
    by_cases h2 : q < r
    · rw [if_pos h2, if_pos h2]
    · rw [if_neg h2, if_neg h2, if_neg (by omega), if_neg (by omega)]
theorem RowAtR.done (h : RowAtR b wd p cnt r n N) (hk : topK b wd p r cnt = refTop b wd p r n) : RowToR b wd p cnt (r + 1) N := fun q u hu => by
  rw [h q u hu]
  by_cases h1 : q < r
  · rw [if_pos h1, if_pos (by omega)]
  · rw [if_neg h1]
    by_cases h2 : q = r
    · rw [if_pos h2, if_pos (by omega), h2, hk]
    · rw [if_neg h2, if_neg (by omega)]
theorem RowToR.all (h : RowToR b wd p cnt r N) (hl : N.length = b.length) (hr : r = b.length) : N = rowK b wd p cnt := List.ext_getElem? fun q => by
  rcases Nat.lt_or_ge q b.length with h1 | h1
  · rw [rowK_get h1, List.getElem?_eq_getElem (by omega)]
    congr 1
    have := h q _ (List.getElem?_eq_getElem (by omega))
    rw [if_pos (by omega)] at this
    exact this
  · rw [List.getElem?_eq_none (by omega), List.getElem?_eq_none (by rw [rowK_len]; exact h1)]
end
set_option maxRecDepth 100000 in
set_option maxHeartbeats 8000000 in
theorem refDear_any (L K : Int) (A : Option Addr) (c : Nat) (l : List Ask) (AP : Option Addr) (cP : Nat) (ps : List Int) (w : World) (hS : Slc Ask.enc 2 w w.heap.size A l) (hP : Slc intEnc 1 w w.heap.size AP ps) (hl : ps.length ≤ 100000) :
    Calls Tryd.prog 20 #[.agg #[.int .i64 L, .int .i64 K, .slice A l.length c], .slice AP ps.length cP] w fun e w' => e = .returned (.tuple #[.int .i64 (dD L K l ps), .int .i64 (dE L K l ps)]) ∧ Below w.heap.size w w' := by
  have hk := Blk.new w 24 #[.int .i64 L, .int .i64 K, .slice A l.length c]
  have hB := (Below.refl w.heap.size w).alloc (Nat.le_refl _) (.cells #[.int .i64 L, .int .i64 K, .slice A l.length c] 24)
  go_enter Tryd.func20, Tryd.ntmps20
  go_upto_region 1 with fail
  generalize w.alloc (.cells #[.int .i64 L, .int .i64 K, .slice A l.length c] 24) = W at *
  have c0 := hk.cell_ 0 rfl
  have c1 := hk.cell_ 1 rfl
  have c2 := hk.cell_ 2 rfl
  go_wp2_with fail
  refine (refPrices_any L K A c l AP cP ps _ (hS.on hB) (hP.on hB) hl).mono ?_
  rintro e W ⟨rfl, hb⟩
  clear c0 c1 c2
  replace hk := hk.below hb hk.lt
  replace hB := hB.trans (hb.mono hB.size)
  clear hb
  have c0 := hk.cell_ 0 rfl
  have c1 := hk.cell_ 1 rfl
  have c2 := hk.cell_ 2 rfl
  by_cases he : dE L K l ps = 0
  case neg =>
    have HV : Hid (dD L K l ps = 0) := by show _ = _; unfold dD; rw [if_neg he]
    have h0' : (dE L K l ps == 0) = false := by simpa using he
    have h1' : (dE L K l ps != 0) = true := by simp [he]
    clear he
    obtain ⟨E, hE⟩ : ∃ E, E = dE L K l ps := ⟨_, rfl⟩
    have HE := hide hE
    rw [← hE] at h0' h1'
    rw [← hE]
    clear hE
    go_wp2_with fail
    go_ret2
    exact ⟨by rw [HV.out, ← HE.out]; rfl, hB⟩
  have HE := hide he
  obtain ⟨h1, h2⟩ := dE_zero he
  have HVK := hide (validK_iff.1 h1)
  have HPI := hide (pricedB_iff.1 h2)
  have HDD : Hid (dD L K l ps = dearF L K l ps) := by show _ = _; unfold dD; rw [if_pos he]
  rw [he]
  clear he h1 h2
  obtain ⟨vL, vK, vF, _⟩ := HVK.out
  obtain ⟨R, hR⟩ : ∃ R : Nat, (R : Int) = L + K := ⟨(L + K).toNat, by omega⟩
  have HD : Hid (dearF L K l ps = (bestL K l ps (List.replicate (R + 1) 0)).getD R 0) := by
    show _ = _
    unfold dearF
    rw [show (L + K).toNat = R by omega]
  have hR2 : R ≤ 1020 := by omega
  have hmk := mk_zeros (R + 1) (by omega)
  rw [show ((R + 1 : Nat) : Int) = L + K + 1 by omega] at hmk
  have HMK := hide (mk_zeros (R + 1) (by omega))
  have HRR := hide hR
  clear hR
  have hkl := hk.lt
  have q_c0 := (hk.alloc (.cells (intJ (List.replicate (R + 1) 0) []) 3)).cell_ 0 rfl
  have q_c1 := (hk.alloc (.cells (intJ (List.replicate (R + 1) 0) []) 3)).cell_ 1 rfl
  have q_c2 := (hk.alloc (.cells (intJ (List.replicate (R + 1) 0) []) 3)).cell_ 2 rfl
  go_upto_region 6 with fail
  clear q_c0 q_c1 q_c2
  clear c0 c1 c2
  have hb := Blk.new W 3 (intJ (List.replicate (R + 1) 0) [])
  replace hk := hk.alloc (.cells (intJ (List.replicate (R + 1) 0) []) 3)
  have hsz_gb : (W.alloc (.cells (intJ (List.replicate (R + 1) 0) []) 3)).heap.size = W.heap.size + 1 := by simp
  have gbge := hB.size
  replace hB := hB.alloc hB.size (.cells (intJ (List.replicate (R + 1) 0) []) 3)
  generalize hgb : W.heap.size = gb at *
  generalize W.alloc (.cells (intJ (List.replicate (R + 1) 0) []) 3) = W at *
  clear hgb
  have c0 := hk.cell_ 0 rfl
  have c1 := hk.cell_ 1 rfl
  have c2 := hk.cell_ 2 rfl
  clear hmk
  rw [← HRR.out]
  go_wp2_with fail
  clear c0 c1 c2
  go_loopw [8, 9] (fun bv y W => ∃ (i g cap : Nat) (js : List Value) (b : List Int), bv = .slice (some ⟨g, 0, none⟩) (R + 1) cap ∧ y = .int .i64 i ∧ i ≤ l.length ∧ b.length = R + 1 ∧ w.heap.size < g ∧ Blk W g 3 (intJ b js) ∧ Hid (Low b (i * 50000000) ∧ bestL K l ps (List.replicate (R + 1) 0) = bestL K (l.drop i) (ps.drop i) b) ∧ Blk W w.heap.size 24 #[.int .i64 L, .int .i64 K, .slice A l.length c] ∧ Below w.heap.size w W) (fun bv y _ => l.length - (intOf y).toNat)
  case atStart => exact ⟨0, gb, R + 1, [], List.replicate (R + 1) 0, rfl, rfl, Nat.zero_le _, by simp, hkl, hb, hide ⟨by simpa using low_zero (R + 1), rfl⟩, hk, hB⟩
  case round =>
    clear hk hB hb
    obtain ⟨W, rfl⟩ : ∃ W : World, W = wr := ⟨_, rfl⟩
    obtain ⟨i, g, cap, js, b, rfl, rfl, hi, hbl, hg, hbb, HT, hk, hB⟩ := hrel
    by_cases hlt : i < l.length
    · obtain ⟨⟨ln, cn⟩, bo, off, hx, hA, _, _, _⟩ := ask_at (hS.below hB) hlt
      have hii : (i : Int) < (l.length : Int) := by omega
      have hxo := HVK.out.ask _ (List.mem_of_getElem? hx)
      dsimp only at hxo
      obtain ⟨cnt, rfl⟩ : ∃ cnt : Nat, cn = (cnt : Int) := ⟨cn.toNat, by omega⟩
      obtain ⟨p, bq, offq, hp, hAP, _, _⟩ := ints_at' (hP.below hB) (show i < ps.length by rw [HPI.out.2]; exact hlt)
      have hpo := HPI.out.1 p (List.mem_of_getElem? hp)
      have hR := HRR.out
      obtain ⟨wd, hwd⟩ : ∃ wd : Nat, (wd : Int) = ln + K := ⟨(ln + K).toNat, by omega⟩
      have HST : Hid (bestL K (l.drop i) (ps.drop i) b = bestL K (l.drop (i + 1)) (ps.drop (i + 1)) (rowK b wd p cnt)) := by
        show _ = _
        rw [bestL_step hx hp, show (ln + K).toNat = wd by omega, Int.toNat_natCast]
      have hcnt2 : cnt ≤ 50 := by omega
      have hwd2 : 1 ≤ wd ∧ wd ≤ 1020 := by omega
      have HWD := hide hwd
      have hlo : 1 ≤ ln ∧ ln ≤ L := hxo.1
      clear hR hwd hxo
      have hip : (i : Int) < (ps.length : Int) := by rw [HPI.out.2]; exact hii
      have HP := hide hp
      have HX := hide hx
      have hmk := HMK.out
      rw [show ((R + 1 : Nat) : Int) = (R : Int) + 1 by push_cast; rfl] at hmk
      have hgl := hbb.lt
      have hkl2 := hk.lt
      clear hx hp
      subst hA hAP
      have c0 := hk.cell_ 0 rfl
      have c1 := hk.cell_ 1 rfl
      have c2 := hk.cell_ 2 rfl
      have q_c0 := (hk.alloc (.cells (intJ (List.replicate (R + 1) 0) []) 3)).cell_ 0 rfl
      have q_c1 := (hk.alloc (.cells (intJ (List.replicate (R + 1) 0) []) 3)).cell_ 1 rfl
      have q_c2 := (hk.alloc (.cells (intJ (List.replicate (R + 1) 0) []) 3)).cell_ 2 rfl
      go_upto_region 10 with fail
      clear q_c0 q_c1 q_c2
      clear c0 c1 c2
      have hn := Blk.new W 3 (intJ (List.replicate (R + 1) 0) [])
      replace hk := hk.alloc (.cells (intJ (List.replicate (R + 1) 0) []) 3)
      replace hbb := hbb.alloc (.cells (intJ (List.replicate (R + 1) 0) []) 3)
      have hsz_g2 : (W.alloc (.cells (intJ (List.replicate (R + 1) 0) []) 3)).heap.size = W.heap.size + 1 := by simp
      have g2ge := hB.size
      replace hB := hB.alloc hB.size (.cells (intJ (List.replicate (R + 1) 0) []) 3)
      generalize hg2 : W.heap.size = g2 at *
      generalize W.alloc (.cells (intJ (List.replicate (R + 1) 0) []) 3) = W at *
      clear hg2
      have c0 := hk.cell_ 0 rfl
      have c1 := hk.cell_ 1 rfl
      have c2 := hk.cell_ 2 rfl
      clear hmk
      go_wp2_with fail
      clear c0 c1 c2
      go_loopw [11] (fun y W => ∃ (r : Nat) (N : List Int), y = .int .i64 r ∧ r ≤ R + 1 ∧ N.length = R + 1 ∧ Hid (RowToR b wd p cnt r N) ∧ Blk W w.heap.size 24 #[.int .i64 L, .int .i64 K, .slice (some ⟨bo, off, none⟩) l.length c] ∧ Blk W g 3 (intJ b js) ∧ Blk W g2 3 (intJ N []) ∧ Below w.heap.size w W) (fun y _ => R + 1 - (intOf y).toNat)
      case atStart => exact ⟨0, List.replicate (R + 1) 0, rfl, Nat.zero_le _, by simp, hide (RowToR.start _), hk, hbb, hn, hB⟩
      case round =>
        clear hk hB hbb hn
        obtain ⟨W, rfl⟩ : ∃ W : World, W = wr := ⟨_, rfl⟩
        obtain ⟨r, N, rfl, hr, hNl, HN, hk, hbb, hn, hB⟩ := hrel
        by_cases hrl : r < R + 1
        · have hri : (r : Int) ≤ (R : Int) := by omega
          have hri2 : (r : Int) < (R : Int) + 1 := by omega
          have c0 := hk.cell_ 0 rfl
          have c1 := hk.cell_ 1 rfl
          have c2 := hk.cell_ 2 rfl
          go_wp2_with fail
          clear c0 c1 c2
          go_loopw [12] (fun y W => ∃ (n : Nat) (N : List Int), y = .int .i64 n ∧ n ≤ cnt + 1 ∧ N.length = R + 1 ∧ Hid (RowAtR b wd p cnt r n N) ∧ Blk W w.heap.size 24 #[.int .i64 L, .int .i64 K, .slice (some ⟨bo, off, none⟩) l.length c] ∧ Blk W g 3 (intJ b js) ∧ Blk W g2 3 (intJ N []) ∧ Below w.heap.size w W) (fun y _ => cnt + 2 - (intOf y).toNat)
          case atStart => exact ⟨0, N, rfl, Nat.zero_le _, hNl, hide HN.out.at_, hk, hbb, hn, hB⟩
          case round =>
            clear hk hB hbb hn HN hNl
            clear N
            obtain ⟨W, rfl⟩ : ∃ W : World, W = wr := ⟨_, rfl⟩
            obtain ⟨n, N, rfl, hnc, hNl, HN, hk, hbb, hn, hB⟩ := hrel
            obtain ⟨⟨ln', cn'⟩, bo', off', hx', hA', _, d0, d1⟩ := ask_at (hS.below hB) (show i < l.length by omega)
            obtain ⟨rfl, rfl⟩ : bo = bo' ∧ off = off' := by simpa using hA'
            have hxe : (⟨ln', cn'⟩ : Ask) = ⟨ln, (cnt : Int)⟩ := by have h := HX.out; rw [hx'] at h; injection h
            injection hxe with hxe1 hxe2
            dsimp only at d0 d1
            rw [hxe1] at d0
            rw [hxe2] at d1
            clear hx' hA' hxe1 hxe2
            have c0 := hk.cell_ 0 rfl
            have c1 := hk.cell_ 1 rfl
            have c2 := hk.cell_ 2 rfl
            by_cases hle : (n : Int) ≤ (cnt : Int)
            · obtain ⟨m, hm0, hm1, hm2⟩ : ∃ m : Nat, (n : Int) * (ln + K) = (m : Int) ∧ m = n * wd ∧ m ≤ 100000 := by
                refine ⟨n * wd, ?_, rfl, ?_⟩
                · rw [← HWD.out]; push_cast; rfl
                · calc n * wd ≤ 51 * 1020 := Nat.mul_le_mul (by omega) (by omega)
                    _ ≤ 100000 := by omega
              have e1 : IntKind.i64.wrap ((n : Int) * (ln + K)) = (m : Int) := by rw [hm0]; exact IntWalk.i64_in _ (by omega)
              have HM := hide hm1
              clear hm0 hm1
              by_cases hmr : m ≤ r
              · obtain ⟨q, hq⟩ : ∃ q : Nat, (r : Int) - (m : Int) = (q : Int) := ⟨r - m, by omega⟩
                have hmr' : (m : Int) ≤ (r : Int) := by omega
                have hqi : (q : Int) < (R : Int) + 1 := by omega
                obtain ⟨v0, hv0⟩ : ∃ v, N[r]? = some v := ⟨_, List.getElem?_eq_getElem (by omega)⟩
                obtain ⟨v2, hv2⟩ : ∃ v, b[q]? = some v := ⟨_, List.getElem?_eq_getElem (by omega)⟩
                obtain ⟨p', bq', offq', hp', hAP', _, hcp⟩ := ints_at' (hP.below hB) (show i < ps.length by omega)
                obtain ⟨rfl, rfl⟩ : bq = bq' ∧ offq = offq' := by simpa using hAP'
                obtain rfl : p' = p := by have h := HP.out; rw [hp'] at h; injection h
                obtain ⟨pp, hpp, hpp2⟩ : ∃ pp : Int, (n : Int) * p' = pp ∧ 0 ≤ pp ∧ pp ≤ 51000000 := by
                  refine ⟨_, rfl, Int.mul_nonneg (by omega) hpo.1, ?_⟩
                  calc (n : Int) * p' ≤ 51 * 1000000 := Int.mul_le_mul (by omega) hpo.2 hpo.1 (by omega)
                    _ ≤ 51000000 := by omega
                have e4 : IntKind.i64.wrap ((n : Int) * p') = pp := by rw [hpp]; exact IntWalk.i64_in _ (by omega)
                have hv2b := HT.out.1 q v2 hv2
                have hv2c : 0 ≤ v2 ∧ v2 ≤ 500000000 := by omega
                have hv0e := HN.out r v0 hv0
                rw [if_neg (by omega), if_pos rfl] at hv0e
                have htk : refTop b wd p' r (n + 1) = max v0 (pp + v2) := by
                  rw [refTop_more (by rw [← HM.out]; exact hmr) HT.out.1 (by omega), ← hv0e, ← HM.out, show r - m = q by omega, getD_of hv2, hpp, Int.add_comm]
                have t8 := hbb.cell_ q (intJ_get hv2)
                have t9 := hn.cell_ r (intJ_get hv0)
                have HSZ := hide (intJ_lt (l := N) (js := []) (i := r) (by omega))
                have HTK := hide htk
                have HNL := hide hNl
                clear hv0 hv2 hp' hAP' hpp hv2b hv0e htk hNl
                go_wp2_with fail
                refine wp_region_quiet (C := fun w' => ∃ u : Since W, w' = u.w) (by kernel_rfl) (by kernel_rfl) (Since.start W) ?_
                dsimp only
                have y_c0 := Since.cell c0
                have y_c1 := Since.cell c1
                have y_c2 := Since.cell c2
                have y_d0 := Since.cell d0
                have y_d1 := Since.cell d1
                have y_t8 := Since.cell t8
                have y_t9 := Since.cell t9
                have y_hcp := Since.cell hcp
                clear c0 c1 c2
                repeat (go_big_quiet_step ((fail)))
                refine wpQuiet_nil ?_
                rintro W ⟨⟨_, hb⟩, rfl⟩
                try dsimp only at hb ⊢
                replace d0 : W.cell? _ = _ := y_d0 ⟨W, hb⟩
                replace d1 : W.cell? _ = _ := y_d1 ⟨W, hb⟩
                replace t8 : W.cell? _ = _ := y_t8 ⟨W, hb⟩
                replace t9 : W.cell? _ = _ := y_t9 ⟨W, hb⟩
                replace hcp : W.cell? _ = _ := y_hcp ⟨W, hb⟩
                clear y_c0 y_c1 y_c2 y_d0 y_d1 y_t8 y_t9 y_hcp
                replace hk := hk.below hb hk.lt
                replace hbb := hbb.below hb hbb.lt
                replace hn := hn.below hb hn.lt
                replace hB := hB.trans (hb.mono hB.size)
                clear hb
                have c0 := hk.cell_ 0 rfl
                have c1 := hk.cell_ 1 rfl
                have c2 := hk.cell_ 2 rfl
                go_wp2_with fail
                by_cases hmx : v0 < pp + v2
                · have HN2 : Hid (RowAtR b wd p' cnt r (n + 1) (N.set r (pp + v2))) := HN.out.set (by rw [HTK.out]; omega)
                  go_wp2_with fail
                  refine wp_region_quiet_tail (C := fun w' => ∃ u : Since W, w' = u.w) 31 (by kernel_rfl) (by kernel_rfl) (Since.start W) ?_
                  simp only [List.take_succ_cons, List.take_zero, List.drop_succ_cons, List.drop_zero]
                  have y_c0 := Since.cell c0
                  have y_c1 := Since.cell c1
                  have y_c2 := Since.cell c2
                  have y_t8 := Since.cell t8
                  have y_t9 := Since.cell t9
                  have y_hcp := Since.cell hcp
                  have y_d0 := Since.cell d0
                  have y_d1 := Since.cell d1
                  clear c0 c1 c2
                  repeat (go_big_quiet_step ((fail)))
                  refine wpQuiet_nil ?_
                  rintro W ⟨⟨_, hb⟩, rfl⟩
                  try dsimp only at hb ⊢
                  replace t8 : W.cell? _ = _ := y_t8 ⟨W, hb⟩
                  replace t9 : W.cell? _ = _ := y_t9 ⟨W, hb⟩
                  replace hcp : W.cell? _ = _ := y_hcp ⟨W, hb⟩
                  replace d0 : W.cell? _ = _ := y_d0 ⟨W, hb⟩
                  replace d1 : W.cell? _ = _ := y_d1 ⟨W, hb⟩
                  clear y_c0 y_c1 y_c2 y_t8 y_t9 y_hcp y_d0 y_d1
                  replace hk := hk.below hb hk.lt
                  replace hbb := hbb.below hb hbb.lt
                  replace hn := hn.below hb hn.lt
                  replace hB := hB.trans (hb.mono hB.size)
                  clear hb
                  have c0 := hk.cell_ 0 rfl
                  have c1 := hk.cell_ 1 rfl
                  have c2 := hk.cell_ 2 rfl
                  refine wpList_store_at rfl 3 _ _ rfl (.int .i64 (pp + v2)) hn rfl rfl (by kernel_rfl) rfl HSZ.out rfl ?_
                  intro W2 hn2 hc2
                  rw [intJ_set (by rw [HNL.out]; exact hrl)] at hn2
                  clear c0 c1 c2
                  replace hk := hk.chg1 hc2 (by omega)
                  replace hbb := hbb.chg1 hc2 (by omega)
                  replace hB := hB.trans (hc2.below1 hB.size (by omega))
                  have HNL2 : Hid ((N.set r (pp + v2)).length = R + 1) := by show _ = _; rw [List.length_set]; exact HNL.out
                  clear hn hc2 t8 t9 hcp d0 d1
                  go_wp2_with fail
                  go_roundw
                  case rel => exact ⟨n + 1, N.set r (pp + v2), by go_num, by omega, HNL2.out, HN2, hk, hbb, hn2, hB⟩
                  case measure => simp [intOf]; omega
                · have HN2 : Hid (RowAtR b wd p' cnt r (n + 1) (N.set r v0)) := HN.out.set (by rw [HTK.out]; omega)
                  go_wp2_with fail
                  refine wp_region_quiet_tail (C := fun w' => ∃ u : Since W, w' = u.w) 31 (by kernel_rfl) (by kernel_rfl) (Since.start W) ?_
                  simp only [List.take_succ_cons, List.take_zero, List.drop_succ_cons, List.drop_zero]
                  have y_c0 := Since.cell c0
                  have y_c1 := Since.cell c1
                  have y_c2 := Since.cell c2
                  have y_t8 := Since.cell t8
                  have y_t9 := Since.cell t9
                  have y_hcp := Since.cell hcp
                  have y_d0 := Since.cell d0
                  have y_d1 := Since.cell d1
                  clear c0 c1 c2
                  repeat (go_big_quiet_step ((fail)))
                  refine wpQuiet_nil ?_
                  rintro W ⟨⟨_, hb⟩, rfl⟩
                  try dsimp only at hb ⊢
                  replace t8 : W.cell? _ = _ := y_t8 ⟨W, hb⟩
                  replace t9 : W.cell? _ = _ := y_t9 ⟨W, hb⟩
                  replace hcp : W.cell? _ = _ := y_hcp ⟨W, hb⟩
                  replace d0 : W.cell? _ = _ := y_d0 ⟨W, hb⟩
                  replace d1 : W.cell? _ = _ := y_d1 ⟨W, hb⟩
                  clear y_c0 y_c1 y_c2 y_t8 y_t9 y_hcp y_d0 y_d1
                  replace hk := hk.below hb hk.lt
                  replace hbb := hbb.below hb hbb.lt
                  replace hn := hn.below hb hn.lt
                  replace hB := hB.trans (hb.mono hB.size)
                  clear hb
                  have c0 := hk.cell_ 0 rfl
                  have c1 := hk.cell_ 1 rfl
                  have c2 := hk.cell_ 2 rfl
                  refine wpList_store_at rfl 3 _ _ rfl (.int .i64 (v0)) hn rfl rfl (by kernel_rfl) rfl HSZ.out rfl ?_
                  intro W2 hn2 hc2
                  rw [intJ_set (by rw [HNL.out]; exact hrl)] at hn2
                  clear c0 c1 c2
                  replace hk := hk.chg1 hc2 (by omega)
                  replace hbb := hbb.chg1 hc2 (by omega)
                  replace hB := hB.trans (hc2.below1 hB.size (by omega))
                  have HNL2 : Hid ((N.set r (v0)).length = R + 1) := by show _ = _; rw [List.length_set]; exact HNL.out
                  clear hn hc2 t8 t9 hcp d0 d1
                  go_wp2_with fail
                  go_roundw
                  case rel => exact ⟨n + 1, N.set r (v0), by go_num, by omega, HNL2.out, HN2, hk, hbb, hn2, hB⟩
                  case measure => simp [intOf]; omega
              · have hn1 : n ≠ 0 := by
                  rintro rfl
                  have := HM.out
                  simp at this; omega
                have HN2 := hide (HN.out.done (by
                  obtain ⟨n', hn'⟩ : ∃ n', n = n' + 1 := ⟨n - 1, by omega⟩
                  rw [hn']
                  exact topK_stop (k := n') (by rw [← hn', ← HM.out]; omega) (by omega)))
                have hmr' : ¬ (m : Int) ≤ (r : Int) := by omega
                go_wp2_with fail
                refine wp_region_quiet (C := fun w' => ∃ u : Since W, w' = u.w) (by kernel_rfl) (by kernel_rfl) (Since.start W) ?_
                dsimp only
                have y_c0 := Since.cell c0
                have y_c1 := Since.cell c1
                have y_c2 := Since.cell c2
                have y_d0 := Since.cell d0
                have y_d1 := Since.cell d1
                clear c0 c1 c2
                repeat (go_big_quiet_step ((fail)))
                refine wpQuiet_nil ?_
                rintro W ⟨⟨_, hb⟩, rfl⟩
                try dsimp only at hb ⊢
                replace d0 : W.cell? _ = _ := y_d0 ⟨W, hb⟩
                replace d1 : W.cell? _ = _ := y_d1 ⟨W, hb⟩
                clear y_c0 y_c1 y_c2 y_d0 y_d1
                replace hk := hk.below hb hk.lt
                replace hbb := hbb.below hb hbb.lt
                replace hn := hn.below hb hn.lt
                replace hB := hB.trans (hb.mono hB.size)
                clear hb
                have c0 := hk.cell_ 0 rfl
                have c1 := hk.cell_ 1 rfl
                have c2 := hk.cell_ 2 rfl
                go_wp2_with fail
                go_roundw
                case rel => exact ⟨r + 1, N, by go_num, by omega, hNl, HN2, hk, hbb, hn, hB⟩
                case measure => simp [intOf]; omega
            · have HN2 := hide (HN.out.done (by rw [show n = cnt + 1 by omega]; rfl))
              have hd1 : decide ((n : Int) ≤ (cnt : Int)) = false := decide_eq_false hle
              have hd2 : decide (n ≤ cnt) = false := decide_eq_false (by omega)
              go_wp2_with fail
              refine wp_region_quiet (C := fun w' => ∃ u : Since W, w' = u.w) (by kernel_rfl) (by kernel_rfl) (Since.start W) ?_
              dsimp only
              have y_c0 := Since.cell c0
              have y_c1 := Since.cell c1
              have y_c2 := Since.cell c2
              have y_d0 := Since.cell d0
              have y_d1 := Since.cell d1
              clear c0 c1 c2
              repeat (go_big_quiet_step ((fail)))
              refine wpQuiet_nil ?_
              rintro W ⟨⟨_, hb⟩, rfl⟩
              try dsimp only at hb ⊢
              replace d0 : W.cell? _ = _ := y_d0 ⟨W, hb⟩
              replace d1 : W.cell? _ = _ := y_d1 ⟨W, hb⟩
              clear y_c0 y_c1 y_c2 y_d0 y_d1
              replace hk := hk.below hb hk.lt
              replace hbb := hbb.below hb hbb.lt
              replace hn := hn.below hb hn.lt
              replace hB := hB.trans (hb.mono hB.size)
              clear hb
              have c0 := hk.cell_ 0 rfl
              have c1 := hk.cell_ 1 rfl
              have c2 := hk.cell_ 2 rfl
              go_wp2_with fail
              go_roundw
              case rel => exact ⟨r + 1, N, by go_num, by omega, hNl, HN2, hk, hbb, hn, hB⟩
              case measure => simp [intOf]; omega
        · obtain rfl : r = R + 1 := by omega
          have hall := HN.out.all (by rw [hNl, hbl]) hbl.symm
          subst hall
          have HT2 : Hid (Low (rowK b wd p cnt) (((i + 1 : Nat) : Int) * 50000000) ∧ bestL K l ps (List.replicate (R + 1) 0) = bestL K (l.drop (i + 1)) (ps.drop (i + 1)) (rowK b wd p cnt)) := by
            refine ⟨?_, by rw [HT.out.2, HST.out]⟩
            have := rowK_low (wd := wd) (cnt := cnt) HT.out.1 (by omega) hpo hcnt2
            rw [show (((i + 1 : Nat) : Int)) * 50000000 = (i : Int) * 50000000 + 50000000 by push_cast; omega]
            exact this
          have hrr : ¬ ((R + 1 : Nat) : Int) ≤ (R : Int) := by omega
          have c0 := hk.cell_ 0 rfl
          have c1 := hk.cell_ 1 rfl
          have c2 := hk.cell_ 2 rfl
          go_wp2_with fail
          go_roundw
          case rel => exact ⟨i + 1, g2, R + 1, [], rowK b wd p cnt, rfl, by go_num, by omega, hNl, by omega, hn, HT2, hk, hB⟩
          case measure => simp [intOf]; omega
    · obtain rfl : i = l.length := by omega
      obtain ⟨v, hv⟩ : ∃ v, b[R]? = some v := ⟨_, List.getElem?_eq_getElem (by omega)⟩
      have HV : Hid (dD L K l ps = v) := by
        show _ = _
        rw [HDD.out, HD.out, HT.out.2]
        have e := bestL_end (K := K) (l := l) (ps := ps) (b := b)
        rw [e]; exact getD_of hv
      have t9 := hbb.cell_ R (intJ_get hv)
      have c0 := hk.cell_ 0 rfl
      have c1 := hk.cell_ 1 rfl
      have c2 := hk.cell_ 2 rfl
      go_wp2_with fail
      go_ret2
      exact ⟨by rw [HV.out, HE.out]; rfl, hB⟩
set_option maxRecDepth 100000 in
set_option maxHeartbeats 1000000 in
theorem refBound_any (L K : Int) (A : Option Addr) (c : Nat) (l : List Ask) (AP : Option Addr) (cP : Nat) (ps : List Int) (w : World) (hS : Slc Ask.enc 2 w w.heap.size A l) (hP : Slc intEnc 1 w w.heap.size AP ps) (hl : ps.length ≤ 100000) :
    Calls Tryd.prog 22 #[.agg #[.int .i64 L, .int .i64 K, .slice A l.length c], .slice AP ps.length cP] w fun e w' => e = .returned (.tuple #[.int .i64 (bB L K l ps), .int .i64 (dE L K l ps)]) ∧ Below w.heap.size w w' := by
  have hk := Blk.new w 24 #[.int .i64 L, .int .i64 K, .slice A l.length c]
  have hB := (Below.refl w.heap.size w).alloc (Nat.le_refl _) (.cells #[.int .i64 L, .int .i64 K, .slice A l.length c] 24)
  go_enter Tryd.func22, Tryd.ntmps22
  go_upto_region 1 with fail
  generalize w.alloc (.cells #[.int .i64 L, .int .i64 K, .slice A l.length c] 24) = W at *
  have c0 := hk.cell_ 0 rfl
  have c1 := hk.cell_ 1 rfl
  have c2 := hk.cell_ 2 rfl
  go_wp2_with fail
  refine (refDear_any L K A c l AP cP ps _ (hS.on hB) (hP.on hB) hl).mono ?_
  rintro e W ⟨rfl, hb⟩
  clear c0 c1 c2
  replace hk := hk.below hb hk.lt
  replace hB := hB.trans (hb.mono hB.size)
  clear hb
  have c0 := hk.cell_ 0 rfl
  have c1 := hk.cell_ 1 rfl
  have c2 := hk.cell_ 2 rfl
  by_cases he : dE L K l ps = 0
  · have HE := hide he
    by_cases h0 : dD L K l ps = 0
    · have HV : Hid (bB L K l ps = 0) := by show _ = _; unfold bB; rw [if_neg (by rw [h0]; simp)]
      rw [he, h0]
      clear he h0
      go_wp2_with fail
      go_ret2
      exact ⟨by rw [HE.out, HV.out]; rfl, hB⟩
    · have hd1 := dD_low HE.out
      have hd2 : dD L K l ps ≠ 0 := h0
      have HB : Hid (bB L K l ps = (allTo l ps l.length + dD L K l ps - 1) / dD L K l ps) := by show _ = _; unfold bB allF; rw [if_pos ⟨HE.out, hd2⟩]
      obtain ⟨h1, h2⟩ := dE_zero he
      have HVK := hide (validK_iff.1 h1)
      have HPI := hide (pricedB_iff.1 h2)
      have h0' : (dD L K l ps == 0) = false := by simpa using h0
      rw [he]
      clear he h1 h2 h0 hd2
      generalize dD L K l ps = d at *
      have hd0 : ¬ d = 0 := by simpa using h0'
      go_wp2_with fail
      clear c0 c1 c2
      go_loopw [8, 9] (fun x y W => ∃ (i : Nat), x = .int .i64 (allTo l ps i) ∧ y = .int .i64 i ∧ i ≤ l.length ∧ Blk W w.heap.size 24 #[.int .i64 L, .int .i64 K, .slice A l.length c] ∧ Below w.heap.size w W) (fun x y _ => l.length - (intOf y).toNat)
      case atStart => exact ⟨0, rfl, rfl, Nat.zero_le _, hk, hB⟩
      case round =>
        clear hk hB
        obtain ⟨W, rfl⟩ : ∃ W : World, W = wr := ⟨_, rfl⟩
        obtain ⟨i, rfl, rfl, hi, hk, hB⟩ := hrel
        have hsl := allTo_low (fun a ha => (HVK.out.ask a ha).2) HPI.out.1 i
        have hlf := HVK.out.few
        by_cases hlt : i < l.length
        · obtain ⟨⟨ln, cn⟩, b, off, hx, hA, _, d0, d1⟩ := ask_at (hS.below hB) hlt
          obtain ⟨p, bq, offq, hp, hAP, _, hcp⟩ := ints_at' (hP.below hB) (show i < ps.length by rw [HPI.out.2]; exact hlt)
          have hii : (i : Int) < (l.length : Int) := by omega
          have hip : (i : Int) < (ps.length : Int) := by rw [HPI.out.2]; exact hii
          have hxo := (HVK.out.ask _ (List.mem_of_getElem? hx)).2
          have hpo := HPI.out.1 p (List.mem_of_getElem? hp)
          have HS := hide (allTo_snoc hx hp)
          dsimp only at d0 d1 hxo
          obtain ⟨pp, hpp, hpp2⟩ : ∃ pp : Int, cn * p = pp ∧ 0 ≤ pp ∧ pp ≤ 50000000 := by
            refine ⟨_, rfl, Int.mul_nonneg hxo.1 hpo.1, ?_⟩
            calc cn * p ≤ 50 * 1000000 := Int.mul_le_mul hxo.2 hpo.2 hpo.1 (by omega)
              _ ≤ 50000000 := by omega
          have e4 : IntKind.i64.wrap (cn * p) = pp := by rw [hpp]; exact IntWalk.i64_in _ (by omega)
          have HS2 : Hid (allTo l ps (i + 1) = allTo l ps i + pp) := by show _ = _; rw [HS.out, hpp]
          clear hx hp hpp HS
          subst hA hAP
          generalize allTo l ps i = S at *
          have c0 := hk.cell_ 0 rfl
          have c1 := hk.cell_ 1 rfl
          have c2 := hk.cell_ 2 rfl
          go_wp2_with fail
          go_wp2_with fail
          refine wp_region_quiet (C := fun w' => ∃ u : Since W, w' = u.w) (by kernel_rfl) (by kernel_rfl) (Since.start W) ?_
          dsimp only
          have y_c0 := Since.cell c0
          have y_c1 := Since.cell c1
          have y_c2 := Since.cell c2
          have y_hcp := Since.cell hcp
          have y_d0 := Since.cell d0
          have y_d1 := Since.cell d1
          clear c0 c1 c2
          repeat (go_big_quiet_step ((fail)))
          refine wpQuiet_nil ?_
          rintro W ⟨⟨_, hb⟩, rfl⟩
          try dsimp only at hb ⊢
          replace hcp : W.cell? _ = _ := y_hcp ⟨W, hb⟩
          replace d0 : W.cell? _ = _ := y_d0 ⟨W, hb⟩
          replace d1 : W.cell? _ = _ := y_d1 ⟨W, hb⟩
          clear y_c0 y_c1 y_c2 y_hcp y_d0 y_d1
          replace hk := hk.below hb hk.lt
          replace hB := hB.trans (hb.mono hB.size)
          clear hb
          have c0 := hk.cell_ 0 rfl
          have c1 := hk.cell_ 1 rfl
          have c2 := hk.cell_ 2 rfl
          go_wp2_with fail
          go_roundw
          case rel => exact ⟨i + 1, by rw [HS2.out], by go_num, by omega, hk, hB⟩
          case measure => simp [intOf]; omega
        · obtain rfl : i = l.length := by omega
          generalize allTo l ps l.length = S at *
          have e5 : (S + d - 1).tdiv d = (S + d - 1) / d := Int.tdiv_eq_ediv_of_nonneg (by omega)
          have hqb : 0 ≤ (S + d - 1) / d ∧ (S + d - 1) / d ≤ S + d - 1 := ⟨Int.ediv_nonneg (by omega) (by omega), Int.ediv_le_self _ (by omega)⟩
          have e6 : IntKind.i64.wrap ((S + d - 1) / d) = (S + d - 1) / d := IntWalk.i64_in _ (by omega)
          have c0 := hk.cell_ 0 rfl
          have c1 := hk.cell_ 1 rfl
          have c2 := hk.cell_ 2 rfl
          go_wp2_with fail
          go_ret2
          exact ⟨by rw [HE.out, HB.out]; rfl, hB⟩
  · have HV : Hid (bB L K l ps = 0) := by show _ = _; unfold bB; rw [if_neg (fun h => he h.1)]
    have h0' : (dE L K l ps == 0) = false := by simpa using he
    have h1' : (dE L K l ps != 0) = true := by simp [he]
    clear he
    obtain ⟨E, hE⟩ : ∃ E, E = dE L K l ps := ⟨_, rfl⟩
    have HE := hide hE
    rw [← hE] at h0' h1'
    rw [← hE]
    clear hE
    go_wp2_with fail
    go_ret2
    exact ⟨by rw [HV.out, ← HE.out]; rfl, hB⟩
end Go.Proofs.YtecaaimaeaocbaaDoor
