/- Least of the program: the walk. -/
import Derived.Test.YtecaaimaeaocbaaDoorKBits
import Derived.Test.YtecaaimaeaocbaaDoorKBatch
import Derived.Test.YtecaaimaeaocbaaDoorGrid
import Derived.Deep.DeepCutAuto
namespace Go.Proofs.YtecaaimaeaocbaaDoor
open Go Go.RowKit
theorem sum_subW_low {ws : List Int} (h : ∀ x ∈ ws, 0 ≤ x ∧ x ≤ 2000) : ∀ (i s : Nat), 0 ≤ (subW (ws.take i) s).sum ∧ (subW (ws.take i) s).sum ≤ 2000 * ws.length := by
  intro i s
  have key : ∀ (l : List Int), (∀ x ∈ l, 0 ≤ x ∧ x ≤ 2000) → 0 ≤ l.sum ∧ l.sum ≤ 2000 * l.length := by
    intro l
    induction l with
    | nil => intro _; simp
    | cons x l ih =>
      intro h
      obtain ⟨h1, h2⟩ := ih fun y hy => h y (List.mem_cons_of_mem _ hy)
      have := h x (List.mem_cons_self ..)
      rw [List.sum_cons, List.length_cons]; push_cast; omega
  obtain ⟨h1, h2⟩ := key (subW (ws.take i) s) fun x hx => h x (List.mem_of_mem_take (subW_mem hx))
  have h3 := subW_len (ws.take i) s
  have h4 : (ws.take i).length ≤ ws.length := by simp; omega
  omega
set_option maxHeartbeats 1000000 in
theorem ctog_any (A : Option Addr) (c : Nat) (ws : List Int) (s : Nat) (w : World) (hS : Slc intEnc 1 w w.heap.size A ws) (hl : ws.length ≤ 10) (hs : s < 1024) (hw : ∀ x ∈ ws, 0 ≤ x ∧ x ≤ 2000) :
    Calls Tryd.prog 65 #[.slice A ws.length c, .int .i64 s] w fun e w' => e = .returned (.int .i64 (subW ws s).sum) ∧ w = w' := by
  have HLO := hide (sum_subW_low hw)
  have HW := hide hw
  clear hw
  go_enter Tryd.func65, Tryd.ntmps65
  go_wp2_with fail
  go_loopw [5, 10] (fun x y W => ∃ (i : Nat), y = .int .i64 i ∧ i ≤ ws.length ∧ x = .int .i64 (subW (ws.take i) s).sum ∧ w = W) (fun x y _ => ws.length - (intOf y).toNat)
  case atStart => exact ⟨0, rfl, Nat.zero_le _, by cases ws <;> rfl, rfl⟩
  case round =>
    obtain ⟨i, rfl, hi, rfl, rfl⟩ := hrel
    by_cases hlt : i < ws.length
    · obtain ⟨x, b, off, hx, hA, _, d0⟩ := ints_at' hS hlt
      have hii : (i : Int) < (ws.length : Int) := by omega
      have hx1 := HW.out x (List.mem_of_getElem? hx)
      have HSN := hide (subW_snoc s hx)
      have hb := HLO.out i s
      obtain ⟨S, hSm⟩ : ∃ S, (subW (ws.take i) s).sum = S := ⟨_, rfl⟩
      have HS := hide hSm
      rw [hSm] at hb ⊢
      have e1 : IntKind.i64.wrap (S + x) = S + x := IntWalk.i64_in _ (by omega)
      have e2 : IntKind.u64.wrap (i : Int) = (i : Int) := by simp [IntKind.wrap, IntKind.signed, IntKind.bits]; omega
      have hsd : s / 2 ^ i < 4611686018427387904 := Nat.lt_of_le_of_lt (Nat.div_le_self _ _) (by omega)
      have e4 : bits .and .i64 ((s : Int) / 2 ^ i) 1 = ((s / 2 ^ i % 2 : Nat) : Int) := by
        rw [← bits_one hsd]
        push_cast; rfl
      have hi64 : (i : Int) ≤ 64 := by omega
      clear hx hSm hsd
      subst hA
      rcases Nat.mod_two_eq_zero_or_one (s / 2 ^ i) with hm | hm
      · rw [hm] at e4
        have e4 : bits .and .i64 ((s : Int) / 2 ^ i) 1 = 0 := e4
        have HN : Hid ((subW (ws.take (i + 1)) s).sum = S) := by show _ = _; rw [HSN.out, if_neg (by omega), List.append_nil, HS.out]
        clear hm
        go_wp2_with fail
        go_roundw
        case rel => exact ⟨i + 1, by go_num, by omega, by rw [HN.out], by simp⟩
        case measure => simp [intOf]; omega
      · rw [hm] at e4
        have e4 : bits .and .i64 ((s : Int) / 2 ^ i) 1 = 1 := e4
        have HN : Hid ((subW (ws.take (i + 1)) s).sum = S + x) := by show _ = _; rw [HSN.out, if_pos hm, List.sum_append, HS.out]; simp
        clear hm
        go_wp2_with fail
        go_roundw
        case rel => exact ⟨i + 1, by go_num, by omega, by rw [HN.out], by simp⟩
        case measure => simp [intOf]; omega
    · obtain rfl : i = ws.length := by omega
      rw [List.take_length]
      go_wp2_with fail
      go_ret
      exact ⟨rfl, rfl⟩
theorem ctog_is (A : Option Addr) (c n : Nat) (ws : List Int) (s : Nat) (w : World) (hS : Slc intEnc 1 w w.heap.size A ws) (hn : ws.length = n) (hl : n ≤ 10) (hs : s < 1024) (hw : ∀ x ∈ ws, 0 ≤ x ∧ x ≤ 2000) {v : Int} (h : (subW ws s).sum = v) :
    Calls Tryd.prog 65 #[.slice A n c, .int .i64 s] w fun e w' => e = .returned (.int .i64 v) ∧ w = w' := by
  subst h hn; exact ctog_any A c ws s w hS hl hs hw
def wdG (K : Int) (l : List Ask) : List Int := l.flatMap fun a => List.replicate a.cnt.toNat (a.len + K)
theorem wdG_snoc {K : Int} {l : List Ask} {i : Nat} {a : Ask} (h : l[i]? = some a) : wdG K (l.take (i + 1)) = wdG K (l.take i) ++ List.replicate a.cnt.toNat (a.len + K) := by
  unfold wdG
  rw [List.take_add_one, h, Option.toList_some, List.flatMap_append]; simp
theorem wdG_len (K : Int) (l : List Ask) (i : Nat) : (wdG K (l.take i)).length ≤ (wdG K l).length := by
  conv => rhs; rw [← List.take_append_drop i l]
  unfold wdG
  rw [List.flatMap_append, List.length_append]; omega
theorem wdG_mem {L K : Int} {l : List Ask} (hv : VK L K l) {x : Int} (h : x ∈ wdG K l) : (0 ≤ x ∧ x ≤ 2000) ∧ x ≤ L + K := by
  obtain ⟨a, ha, hx⟩ := List.mem_flatMap.1 h
  rw [(List.mem_replicate.1 hx).2]
  have h1 := (hv.ask a ha).1
  have h2 := hv.hL
  have h3 := hv.hK
  omega
def LeastV (L K : Int) (l : List Ask) (n E : Int) : Prop :=
  (validK L K l = false → n = 0 ∧ E = 40) ∧ (validK L K l = true → 10 < (wdG K l).length → n = 0 ∧ E = 11) ∧ (validK L K l = true → (wdG K l).length ≤ 10 → E = 0 ∧ ∃ k : Nat, n = k ∧ LeastPk (L + K) (wdG K l) k)
def LeastPost (L K : Int) (l : List Ask) (w : World) (e : Ending) (w' : World) : Prop := ∃ n E : Int, e = .returned (.tuple #[.int .i64 n, .int .i64 E]) ∧ Below w.heap.size w w' ∧ LeastV L K l n E
theorem below_own (X W : World) (h : X = W) : Below X.heap.size X W := by subst h; exact Below.refl _ _
set_option maxRecDepth 100000 in
set_option maxHeartbeats 4000000 in
theorem least_any (L K : Int) (A : Option Addr) (c : Nat) (l : List Ask) (w : World) (hS : Slc Ask.enc 2 w w.heap.size A l) :
    Calls Tryd.prog 30 #[.agg #[.int .i64 L, .int .i64 K, .slice A l.length c]] w (LeastPost L K l w) := by
  have hk := Blk.new w 24 #[.int .i64 L, .int .i64 K, .slice A l.length c]
  have hB := (Below.refl w.heap.size w).alloc (Nat.le_refl _) (.cells #[.int .i64 L, .int .i64 K, .slice A l.length c] 24)
  go_enter Tryd.func30, Tryd.ntmps30
  go_upto_region 1 with fail
  generalize w.alloc (.cells #[.int .i64 L, .int .i64 K, .slice A l.length c] 24) = W at *
  have c0 := hk.cell_ 0 rfl
  have c1 := hk.cell_ 1 rfl
  have c2 := hk.cell_ 2 rfl
  obtain ⟨u, hu⟩ : ∃ u, validK L K l = u := ⟨_, rfl⟩
  have HU := hide hu
  clear hu
  go_wp2_with fail
  refine (kvalidB_is L K A c l _ (hS.on hB) HU.out).mono ?_
  rintro e W ⟨rfl, hb⟩
  clear c0 c1 c2
  replace hk := hk.below hb hk.lt
  replace hB := hB.trans (hb.mono hB.size)
  clear hb
  have c0 := hk.cell_ 0 rfl
  have c1 := hk.cell_ 1 rfl
  have c2 := hk.cell_ 2 rfl
  cases u
  case false =>
    have HV : Hid (LeastV L K l 0 40) := ⟨fun _ => ⟨rfl, rfl⟩, (fun h => by rw [HU.out] at h; cases h), fun h => by rw [HU.out] at h; cases h⟩
    go_wp2_with fail
    go_ret2
    exact ⟨0, 40, rfl, hB, HV.out⟩
  have HV := hide (validK_iff.1 HU.out)
  have hlb := HV.out.hL
  have hkb := HV.out.hK
  have hl8 := HV.out.few
  have HVA := hide HV.out.ask
  have hWz := hk.lt
  obtain ⟨W0, hW0⟩ : ∃ X : World, X = W := ⟨_, rfl⟩
  have hL := below_own W0 W hW0
  rw [← hW0] at hWz
  have hO : Own W W0.heap.size 3 1 intEnc (.slice none 0 0) (wdG K (l.take 0)) := Own.nil_
  clear hW0
  have H10 : Hid ((wdG K (l.take 0)).length ≤ 10) := Nat.zero_le _
  go_wp2_with fail
  clear c0 c1 c2
  go_loopw [4, 16] (fun v y W => ∃ (i : Nat), y = .int .i64 i ∧ i ≤ l.length ∧ Hid ((wdG K (l.take i)).length ≤ 10) ∧ Blk W w.heap.size 24 #[.int .i64 L, .int .i64 K, .slice A l.length c] ∧ Below W0.heap.size W0 W ∧ Own W W0.heap.size 3 1 intEnc v (wdG K (l.take i)) ∧ Below w.heap.size w W) (fun v y _ => l.length - (intOf y).toNat)
  case atStart => exact ⟨0, rfl, Nat.zero_le _, H10, hk, hL, hO, hB⟩
  case round =>
    clear hk hB hO hL H10
    obtain ⟨W, rfl⟩ : ∃ W : World, W = wr := ⟨_, rfl⟩
    obtain ⟨i, rfl, hi, H10, hk, hL, hO, hB⟩ := hrel
    by_cases hlt : i < l.length
    · obtain ⟨a, b, off, ha, hA, _, d0, d1⟩ := ask_at (hS.on hB) hlt
      have hii : (i : Int) < (l.length : Int) := by omega
      obtain ⟨⟨ha1, ha2⟩, ha3, ha4⟩ := HVA.out a (List.mem_of_getElem? ha)
      have HSN := hide (wdG_snoc (K := K) ha)
      obtain ⟨ln, cn⟩ := a
      dsimp only at ha1 ha2 ha3 ha4 d0 d1 HSN
      obtain ⟨k0, hk0⟩ : ∃ k : Nat, cn = (k : Int) := ⟨cn.toNat, by omega⟩
      subst hk0
      rw [Int.toNat_natCast] at HSN
      have hk9 : k0 ≤ 50 := by omega
      have e1 : IntKind.i64.wrap (ln + K) = ln + K := IntWalk.i64_in _ (by omega)
      have hO : Own W W0.heap.size 3 1 intEnc u4 (wdG K (l.take i) ++ List.replicate 0 (ln + K)) := by rw [List.replicate_zero, List.append_nil]; exact hO
      clear ha ha3 ha4
      subst hA
      have hLs := hL.size
      have c0 := hk.cell_ 0 rfl
      have c1 := hk.cell_ 1 rfl
      have c2 := hk.cell_ 2 rfl
      have q_c0 := (hk.alloc (.cells #[.int .i64 ln, .int .i64 k0] 45)).cell_ 0 rfl
      have q_c1 := (hk.alloc (.cells #[.int .i64 ln, .int .i64 k0] 45)).cell_ 1 rfl
      have q_c2 := (hk.alloc (.cells #[.int .i64 ln, .int .i64 k0] 45)).cell_ 2 rfl
      go_upto_region 7 with fail
      clear q_c0 q_c1 q_c2
      clear c0 c1 c2
      have hm := Blk.new W 45 #[.int .i64 ln, .int .i64 k0]
      replace hk := hk.alloc (.cells #[.int .i64 ln, .int .i64 k0] 45)
      replace hL := hL.trans (((Below.refl _ W).alloc (Nat.le_refl _) (.cells #[.int .i64 ln, .int .i64 k0] 45)).mono (by first | exact Nat.le_refl _ | exact hL.size))
      replace hO := hO.alloc (.cells #[.int .i64 ln, .int .i64 k0] 45)
      have hsz_bx : (W.alloc (.cells #[.int .i64 ln, .int .i64 k0] 45)).heap.size = W.heap.size + 1 := by simp
      have bxge := hB.size
      replace hB := hB.alloc hB.size (.cells #[.int .i64 ln, .int .i64 k0] 45)
      generalize hbx : W.heap.size = bx at *
      generalize W.alloc (.cells #[.int .i64 ln, .int .i64 k0] 45) = W at *
      clear hbx
      have c0 := hk.cell_ 0 rfl
      have c1 := hk.cell_ 1 rfl
      have c2 := hk.cell_ 2 rfl
      have m0 := hm.cell_ 0 rfl
      have m1 := hm.cell_ 1 rfl
      clear d0 d1
      go_wp2_with fail
      clear c0 c1 c2 m0 m1
      go_loopw [4, 22] (fun v y W => ∃ (k : Nat), y = .int .i64 k ∧ k ≤ k0 ∧ Blk W w.heap.size 24 #[.int .i64 L, .int .i64 K, .slice (some ⟨b, off, none⟩) l.length c] ∧ Below W0.heap.size W0 W ∧ Own W W0.heap.size 3 1 intEnc v (wdG K (l.take i) ++ List.replicate k (ln + K)) ∧ Blk W bx 45 #[.int .i64 ln, .int .i64 k0] ∧ Below w.heap.size w W) (fun v y _ => k0 - (intOf y).toNat)
      case atStart => exact ⟨0, rfl, Nat.zero_le _, hk, hL, hO, hm, hB⟩
      case round =>
        clear hk hB hO hL hm
        obtain ⟨W, rfl⟩ : ∃ W : World, W = wr := ⟨_, rfl⟩
        obtain ⟨k, rfl, hkk, hk, hL, hO, hm, hB⟩ := hrel
        have c0 := hk.cell_ 0 rfl
        have c1 := hk.cell_ 1 rfl
        have c2 := hk.cell_ 2 rfl
        have m0 := hm.cell_ 0 rfl
        have m1 := hm.cell_ 1 rfl
        by_cases hkl : k < k0
        · have hkl2 : (k : Int) < (k0 : Int) := by omega
          have hlen : (wdG K (l.take i)).length ≤ 10 := H10.out
          have hLs := hL.size
          go_wp2_with (at_builtin; refine wpList_app_own (base := W0.heap.size) (f := intEnc) (ys := [(ln + K : Int)]) _ _ rfl rfl et_ints (hO.alloc _) rfl rfl ((Blk.new W 3 #[.int .i64 (ln + K)]).slc1 rfl) rfl (fun _ => rfl) intEnc_one (by simp <;> omega) (by simp <;> omega) ?_; intro v2 W2 o2 hb2 hg2)
          have hO3 := hO.alloc (.cells #[.int .i64 (ln + K)] 3)
          have hm3 := hm.alloc (.cells #[.int .i64 (ln + K)] 3)
          have hm2 := hm3.grownv hg2 (own_ne_blk hO3 hm3 (by decide))
          have hBW : Below W0.heap.size W W2 := ((Below.refl _ W).alloc hLs (.cells #[.int .i64 (ln + K)] 3)).trans hb2
          have hO2 : Own W2 W0.heap.size 3 1 intEnc v2 (wdG K (l.take i) ++ List.replicate (k + 1) (ln + K)) := by
            rw [List.replicate_succ', ← List.append_assoc]; exact o2
          have hk2 := hk.below hBW hWz
          have hL2 := hL.trans hBW
          have hB2 := hB.trans (hBW.mono (Nat.le_of_lt hWz))
          clear hO o2 hb2 hg2 hO3 hm3 hBW
          go_roundw
          case rel => exact ⟨k + 1, by go_num, by omega, hk2, hL2, hO2, hm2, hB2⟩
          case measure => simp [intOf]; omega
        · obtain rfl : k = k0 := by omega
          rw [← HSN.out] at hO
          obtain ⟨A2, k2, rfl, _⟩ := hO.form fun _ => rfl
          have HLW := hide (wdG_len K l (i + 1))
          by_cases h10 : (10 : Int) < ((wdG K (l.take (i + 1))).length : Int)
          · have HE : Hid (LeastV L K l 0 11) := ⟨(fun h => by rw [HU.out] at h; cases h), fun _ _ => ⟨rfl, rfl⟩, fun _ h => by have := HLW.out; omega⟩
            clear hO
            go_wp2_with fail
            go_ret2
            exact ⟨0, 11, rfl, hB, HE.out⟩
          · have H11 : Hid ((wdG K (l.take (i + 1))).length ≤ 10) := by show _ ≤ _; omega
            go_wp2_with fail
            go_roundw
            case rel => exact ⟨i + 1, by go_num, by omega, H11, hk, hL, hO, hB⟩
            case measure => simp [intOf]; omega
    · obtain rfl : i = l.length := by omega
      rw [List.take_length] at hO H10
      obtain ⟨AW, kW, rfl, hSW⟩ := hO.form fun _ => rfl
      have HWM : Hid (∀ x ∈ wdG K l, (0 ≤ x ∧ x ≤ 2000) ∧ x ≤ L + K) := fun x hx => wdG_mem HV.out hx
      obtain ⟨ws, hws⟩ : ∃ ws, wdG K l = ws := ⟨_, rfl⟩
      have HWS := hide hws
      rw [hws] at hSW H10 HWM ⊢
      obtain ⟨n, hn⟩ : ∃ n, ws.length = n := ⟨_, rfl⟩
      have HN := hide hn
      have hn10 : n ≤ 10 := by rw [← hn]; exact H10.out
      rw [hn]
      obtain ⟨N, hN⟩ : ∃ N, 2 ^ n = N := ⟨_, rfl⟩
      have hN9 : N ≤ 1024 := by rw [← hN]; exact pow_le10 hn10
      have hN1 : 1 ≤ N := by rw [← hN]; exact Nat.two_pow_pos n
      have HNN := hide hN
      have hmk := mk_zeros N (by omega)
      have e2 : IntKind.u64.wrap (n : Int) = (n : Int) := by simp [IntKind.wrap, IntKind.signed, IntKind.bits]; omega
      have e3 : IntKind.i64.wrap ((2 : Int) ^ n) = (N : Int) := by
        rw [← hN, show ((2 : Int) ^ n) = ((2 ^ n : Nat) : Int) by push_cast; rfl]
        exact wrap_small (by omega)
      have hnb : (n : Int) ≤ 64 := by omega
      have e5 : IntKind.i64.wrap (L + K) = L + K := IntWalk.i64_in _ (by omega)
      have HR0 : Hid (0 ≤ L + K) := by show _ ≤ _; omega
      have hLs := hL.size
      clear hO hws hn hN
      have c0 := hk.cell_ 0 rfl
      have c1 := hk.cell_ 1 rfl
      have c2 := hk.cell_ 2 rfl
      have q_c0 := (hk.alloc (.cells (intJ (List.replicate N 0) []) 3)).cell_ 0 rfl
      have q_c1 := (hk.alloc (.cells (intJ (List.replicate N 0) []) 3)).cell_ 1 rfl
      have q_c2 := (hk.alloc (.cells (intJ (List.replicate N 0) []) 3)).cell_ 2 rfl
      go_upto_region 15 with fail
      clear q_c0 q_c1 q_c2
      clear c0 c1 c2
      have hT := Blk.new W 3 (intJ (List.replicate N 0) [])
      replace hk := hk.alloc (.cells (intJ (List.replicate N 0) []) 3)
      replace hL := hL.trans (((Below.refl _ W).alloc (Nat.le_refl _) (.cells (intJ (List.replicate N 0) []) 3)).mono (by first | exact Nat.le_refl _ | exact hL.size))
      replace hSW := hSW.below ((Below.refl _ W).alloc (Nat.le_refl _) (.cells (intJ (List.replicate N 0) []) 3))
      have hsz_g : (W.alloc (.cells (intJ (List.replicate N 0) []) 3)).heap.size = W.heap.size + 1 := by simp
      have gge := hB.size
      replace hB := hB.alloc hB.size (.cells (intJ (List.replicate N 0) []) 3)
      generalize hg : W.heap.size = g at *
      generalize W.alloc (.cells (intJ (List.replicate N 0) []) 3) = W at *
      clear hg
      have c0 := hk.cell_ 0 rfl
      have c1 := hk.cell_ 1 rfl
      have c2 := hk.cell_ 2 rfl
      clear hmk e2 e3
      have hWg : w.heap.size < g := by omega
      have hgs : g ≤ W.heap.size := by omega
      clear hL hsz_g
      obtain ⟨W1, hW1⟩ : ∃ X : World, X = W := ⟨_, rfl⟩
      have hL : Below g W1 W := by rw [hW1]; exact Below.refl _ _
      have HSW : Hid (Slc intEnc 1 W1 g AW ws) := by rw [hW1]; exact hSW
      have HT0 : Hid (∀ q, q < 1 → ∃ v : Nat, (List.replicate N (0 : Int))[q]? = some (v : Int) ∧ LeastPk (L + K) (subW ws q) v) := fun q hq => by
        obtain rfl : q = 0 := by omega
        exact ⟨0, by rw [List.getElem?_replicate, if_pos (by omega)]; rfl, by rw [subW_zero]; exact ⟨Packs.nil_ _, fun m _ => Nat.zero_le _⟩⟩
      have HWR : Hid (∀ x ∈ ws, 0 ≤ x ∧ x ≤ 2000) := fun x hx => (HWM.out x hx).1
      have HWL : Hid (∀ x ∈ ws, x ≤ L + K) := fun x hx => (HWM.out x hx).2
      have hg1 : g ≤ W1.heap.size := by rw [hW1]; exact hgs
      clear hSW hW1 hgs
      go_wp2_with fail
      clear c0 c1 c2
      go_loopw [8] (fun y W => ∃ (s : Nat) (T : List Int), y = .int .i64 s ∧ 1 ≤ s ∧ s ≤ N ∧ T.length = N ∧ Hid (∀ q, q < s → ∃ v : Nat, T[q]? = some (v : Int) ∧ LeastPk (L + K) (subW ws q) v) ∧ Blk W w.heap.size 24 #[.int .i64 L, .int .i64 K, .slice A l.length c] ∧ Blk W g 3 (intJ T []) ∧ Below g W1 W ∧ Below w.heap.size w W) (fun y _ => N - (intOf y).toNat)
      case atStart => exact ⟨1, List.replicate N 0, rfl, Nat.le_refl _, hN1, List.length_replicate, HT0, hk, hT, hL, hB⟩
      case round =>
        clear hk hB hL hT HT0
        obtain ⟨W, rfl⟩ : ∃ W : World, W = wr := ⟨_, rfl⟩
        obtain ⟨s, T, rfl, hs1, hsN, hTl, HT, hk, hT, hL, hB⟩ := hrel
        have HTL := hide hTl
        by_cases hlt : s < N
        · have hss : (s : Int) < (N : Int) := by omega
          have HSL : Hid (s < T.length) := by show _ < _; rw [hTl]; exact hlt
          have HIS : Hid (s < (intJ T []).size) := intJ_lt HSL.out
          have HS2 : Hid (s < 2 ^ ws.length) := by show _ < _; rw [HN.out, HNN.out]; exact hlt
          have HPI : Hid (PartInv (L + K) ws s s n) := by
            have h := PartInv.start (s := s) HR0.out HWL.out
            rw [HN.out] at h
            exact h
          clear hTl
          have c0 := hk.cell_ 0 rfl
          have c1 := hk.cell_ 1 rfl
          have c2 := hk.cell_ 2 rfl
          go_upto_region 19 with (refine wpList_store_at rfl 3 _ _ rfl (.int .i64 n) hT rfl rfl (by kernel_rfl) rfl HIS.out rfl ?_; intro W2 hT2 hc2)
          rw [intJ_set HSL.out] at hT2
          clear c0 c1 c2
          replace hk := hk.chg1 hc2 (by omega)
          replace hB := hB.trans (hc2.below1 hB.size (by omega))
          replace hL := hL.trans (hc2.below1 (Nat.le_trans hg1 hL.size) (by omega))
          clear hT hc2
          have hT := hT2
          clear hT2
          try dsimp only [Act.put]
          obtain ⟨W, rfl⟩ : ∃ X : World, X = W2 := ⟨_, rfl⟩
          have c0 := hk.cell_ 0 rfl
          have c1 := hk.cell_ 1 rfl
          have c2 := hk.cell_ 2 rfl
          go_wp2_with fail
          show Code.wp Tryd.prog _ _ _ _
          clear c0 c1 c2
          go_loopw [9] (fun y W => ∃ (p v : Nat), y = .int .i64 p ∧ Hid (Sub p s) ∧ Hid (PartInv (L + K) ws s p v) ∧ Blk W w.heap.size 24 #[.int .i64 L, .int .i64 K, .slice A l.length c] ∧ Blk W g 3 (intJ (T.set s ((v : Nat) : Int)) []) ∧ Below g W1 W ∧ Below w.heap.size w W) (fun y _ => (intOf y).toNat)
          case atStart => exact ⟨s, n, rfl, hide (Nat.and_self s), HPI, hk, hT, hL, hB⟩
          case round =>
            clear hk hB hL hT HPI
            obtain ⟨W, rfl⟩ : ∃ W : World, W = wr := ⟨_, rfl⟩
            obtain ⟨p, v, rfl, HSB, HPI, hk, hT, hL, hB⟩ := hrel
            by_cases hp0 : p = 0
            · subst hp0
              have HD := hide (HPI.out.done HS2.out (by omega))
              have HT2 : Hid (∀ q, q < s + 1 → ∃ x : Nat, (T.set s ((v : Nat) : Int))[q]? = some (x : Int) ∧ LeastPk (L + K) (subW ws q) x) := fun q hq => by
                rw [List.getElem?_set]
                by_cases e : s = q
                · subst e
                  exact ⟨v, by rw [if_pos rfl, if_pos HSL.out], HD.out⟩
                · rw [if_neg e]
                  exact HT.out q (by omega)
              have HTL2 : Hid ((T.set s ((v : Nat) : Int)).length = N) := by show _ = _; rw [List.length_set]; exact HTL.out
              have c0 := hk.cell_ 0 rfl
              have c1 := hk.cell_ 1 rfl
              have c2 := hk.cell_ 2 rfl
              go_wp2_with fail
              go_roundw
              case rel => exact ⟨s + 1, _, by go_num, by omega, by omega, HTL2.out, HT2, hk, hT, hL, hB⟩
              case measure => simp [intOf]; omega
            · have hple := HSB.out.le
              have hpp : (0 : Int) < (p : Int) := by omega
              have hpp2 : 0 < p := by omega
              obtain ⟨q, hq⟩ : ∃ q, (p - 1) &&& s = q := ⟨_, rfl⟩
              have HSB2 : Hid (Sub q s) := by show Sub q s; rw [← hq]; exact sub_and _ _
              have HLE2 : Hid (q < p) := by
                show _ < _
                have : (p - 1) &&& s ≤ p - 1 := Nat.and_le_left
                omega
              have e7 : IntKind.i64.wrap ((p : Int) - 1) = ((p - 1 : Nat) : Int) := by
                rw [show (p : Int) - 1 = ((p - 1 : Nat) : Int) by omega]
                exact wrap_small (by omega)
              have e8 : bits .and .i64 ((p - 1 : Nat) : Int) (s : Int) = (q : Int) := by rw [bits_and (by omega), hq]
              obtain ⟨p1, hp1⟩ : ∃ p1, p - 1 = p1 := ⟨_, rfl⟩
              rw [hp1] at e7 e8
              obtain ⟨sm, hsm⟩ : ∃ x, (subW ws p).sum = x := ⟨_, rfl⟩
              have HSM := hide hsm
              have hp9 : p < 1024 := by omega
              have T1 := hide ((HSW.out.below hL).more (Nat.le_trans hg1 hL.size))
              have HQ := hide hq
              clear hq hp1 hsm hp0
              have c0 := hk.cell_ 0 rfl
              have c1 := hk.cell_ 1 rfl
              have c2 := hk.cell_ 2 rfl
              go_wp2_with fail
              refine wp_region_quiet (C := fun w' => ∃ u : Since W, w' = u.w) (by kernel_rfl) (by kernel_rfl) (Since.start W) ?_
              dsimp only
              have y_c0 := Since.cell c0
              have y_c1 := Since.cell c1
              have y_c2 := Since.cell c2
              clear c0 c1 c2
              repeat (go_big_quiet_step ((go_at_call 65; exact Since.calls_same (ctog_is AW kW n ws p _ (Slc.on T1.out (Since.h _)) HN.out hn10 hp9 HWR.out HSM.out))))
              refine wpQuiet_nil ?_
              rintro W ⟨⟨_, hb⟩, rfl⟩
              try dsimp only at hb ⊢
              clear y_c0 y_c1 y_c2
              replace hk := hk.below hb hk.lt
              replace hT := hT.below hb hT.lt
              replace hL := hL.trans (hb.mono (by first | exact Nat.le_refl _ | exact Nat.le_trans hg1 hL.size))
              replace hB := hB.trans (hb.mono hB.size)
              clear hb
              have c0 := hk.cell_ 0 rfl
              have c1 := hk.cell_ 1 rfl
              have c2 := hk.cell_ 2 rfl
              by_cases hle : sm ≤ L + K
              · obtain ⟨u, hu1, hl1⟩ := HT.out (s - p) (by omega)
                have HPI2 : Hid (PartInv (L + K) ws s q (min v (u + 1))) := by
                  have h := HPI.out.take HSB.out (by rw [HSM.out]; exact hle) hl1
                  rw [HQ.out] at h
                  exact h
                have hub : u ≤ 1000 := by
                  have h1 := hl1.2 _ (Packs.some_ fun x hx => HWL.out x (subW_mem hx))
                  have h2 := subW_len ws (s - p)
                  rw [HN.out] at h2
                  omega
                have hvb : v ≤ 1000 := by have := HPI.out.few; rw [HN.out] at this; omega
                have e9 : bits .andNot .i64 (s : Int) (p : Int) = ((s - p : Nat) : Int) := bits_andNot HSB.out (by omega)
                obtain ⟨r, hr⟩ : ∃ r, s - p = r := ⟨_, rfl⟩
                rw [hr] at hu1 e9
                have hrs : r < s := by omega
                have hrN : (r : Int) < (N : Int) := by omega
                have t1 := hT.cell_ s (intJ_get (List.getElem?_set_self HSL.out))
                have t2 := hT.cell_ r (intJ_get (v := (u : Int)) (by rw [List.getElem?_set, if_neg (by omega)]; exact hu1))
                have e10 : IntKind.i64.wrap ((u : Int) + 1) = (u : Int) + 1 := IntWalk.i64_in _ (by omega)
                have HSL2 : Hid (s < (T.set s ((v : Nat) : Int)).length) := by show _ < _; rw [List.length_set]; exact HSL.out
                have HIS2 : Hid (s < (intJ (T.set s ((v : Nat) : Int)) []).size) := intJ_lt HSL2.out
                clear hu1 hl1 hr
                by_cases hmn : (u : Int) + 1 < (v : Int)
                · have HMN : Hid (((min v (u + 1) : Nat) : Int) = (u : Int) + 1) := by show _ = _; rw [Nat.min_eq_right (by omega)]; push_cast; rfl
                  go_wp2_with fail
                  refine wp_region_quiet_tail (C := fun w' => ∃ u : Since W, w' = u.w) 15 (by kernel_rfl) (by kernel_rfl) (Since.start W) ?_
                  simp only [List.take_succ_cons, List.take_zero, List.drop_succ_cons, List.drop_zero]
                  have y_c0 := Since.cell c0
                  have y_c1 := Since.cell c1
                  have y_c2 := Since.cell c2
                  have y_t1 := Since.cell t1
                  have y_t2 := Since.cell t2
                  clear c0 c1 c2
                  repeat (go_big_quiet_step ((fail)))
                  refine wpQuiet_nil ?_
                  rintro W ⟨⟨_, hb⟩, rfl⟩
                  try dsimp only at hb ⊢
                  replace t1 : W.cell? _ = _ := y_t1 ⟨W, hb⟩
                  replace t2 : W.cell? _ = _ := y_t2 ⟨W, hb⟩
                  clear y_c0 y_c1 y_c2 y_t1 y_t2
                  replace hk := hk.below hb hk.lt
                  replace hT := hT.below hb hT.lt
                  replace hL := hL.trans (hb.mono (by first | exact Nat.le_refl _ | exact Nat.le_trans hg1 hL.size))
                  replace hB := hB.trans (hb.mono hB.size)
                  clear hb
                  have c0 := hk.cell_ 0 rfl
                  have c1 := hk.cell_ 1 rfl
                  have c2 := hk.cell_ 2 rfl
                  refine wpList_store_at rfl 3 _ _ rfl (.int .i64 ((u : Int) + 1)) hT rfl rfl (by kernel_rfl) rfl HIS2.out rfl ?_
                  intro W2 hT1 hc1
                  rw [intJ_set HSL2.out, List.set_set, ← HMN.out] at hT1
                  have hk2 := hk.chg1 hc1 (by omega)
                  have hB2 := hB.trans (hc1.below1 hB.size (by omega))
                  have hL2 := hL.trans (hc1.below1 (Nat.le_trans hg1 hL.size) (by omega))
                  clear hk hB hL hT hc1 t1 t2 c0 c1 c2
                  go_wp2_with fail
                  go_roundw
                  case rel => exact ⟨q, min v (u + 1), by go_num, HSB2, HPI2, hk2, hT1, hL2, hB2⟩
                  case measure => have := HLE2.out; simp [intOf]; omega
                · have HMN : Hid (((min v (u + 1) : Nat) : Int) = (v : Int)) := by show _ = _; rw [Nat.min_eq_left (by omega)]
                  go_wp2_with fail
                  refine wp_region_quiet_tail (C := fun w' => ∃ u : Since W, w' = u.w) 15 (by kernel_rfl) (by kernel_rfl) (Since.start W) ?_
                  simp only [List.take_succ_cons, List.take_zero, List.drop_succ_cons, List.drop_zero]
                  have y_c0 := Since.cell c0
                  have y_c1 := Since.cell c1
                  have y_c2 := Since.cell c2
                  have y_t1 := Since.cell t1
                  have y_t2 := Since.cell t2
                  clear c0 c1 c2
                  repeat (go_big_quiet_step ((fail)))
                  refine wpQuiet_nil ?_
                  rintro W ⟨⟨_, hb⟩, rfl⟩
                  try dsimp only at hb ⊢
                  replace t1 : W.cell? _ = _ := y_t1 ⟨W, hb⟩
                  replace t2 : W.cell? _ = _ := y_t2 ⟨W, hb⟩
                  clear y_c0 y_c1 y_c2 y_t1 y_t2
                  replace hk := hk.below hb hk.lt
                  replace hT := hT.below hb hT.lt
                  replace hL := hL.trans (hb.mono (by first | exact Nat.le_refl _ | exact Nat.le_trans hg1 hL.size))
                  replace hB := hB.trans (hb.mono hB.size)
                  clear hb
                  have c0 := hk.cell_ 0 rfl
                  have c1 := hk.cell_ 1 rfl
                  have c2 := hk.cell_ 2 rfl
                  refine wpList_store_at rfl 3 _ _ rfl (.int .i64 ((v : Int))) hT rfl rfl (by kernel_rfl) rfl HIS2.out rfl ?_
                  intro W2 hT1 hc1
                  rw [intJ_set HSL2.out, List.set_set, ← HMN.out] at hT1
                  have hk2 := hk.chg1 hc1 (by omega)
                  have hB2 := hB.trans (hc1.below1 hB.size (by omega))
                  have hL2 := hL.trans (hc1.below1 (Nat.le_trans hg1 hL.size) (by omega))
                  clear hk hB hL hT hc1 t1 t2 c0 c1 c2
                  go_wp2_with fail
                  go_roundw
                  case rel => exact ⟨q, min v (u + 1), by go_num, HSB2, HPI2, hk2, hT1, hL2, hB2⟩
                  case measure => have := HLE2.out; simp [intOf]; omega
              · have HPI2 : Hid (PartInv (L + K) ws s q v) := by
                  have h := HPI.out.skip HSB.out (by rw [HSM.out]; exact hle)
                  rw [HQ.out] at h
                  exact h
                go_wp2_with fail
                go_roundw
                case rel => exact ⟨q, v, by go_num, HSB2, HPI2, hk, hT, hL, hB⟩
                case measure => have := HLE2.out; simp [intOf]; omega
        · obtain rfl : s = N := by omega
          obtain ⟨x, hx, hlp⟩ := HT.out (s - 1) (by omega)
          have HE : Hid (LeastV L K l x 0) := ⟨(fun h => by rw [HU.out] at h; cases h), (fun _ h => by have := H10.out; rw [HWS.out] at h; omega), fun _ _ => ⟨rfl, x, rfl, by
            rw [HWS.out]
            rw [← HNN.out, ← HN.out, subW_full] at hlp
            exact hlp⟩⟩
          have e11 : IntKind.i64.wrap ((s : Int) - 1) = ((s - 1 : Nat) : Int) := by
            rw [show (s : Int) - 1 = ((s - 1 : Nat) : Int) by omega]
            exact wrap_small (by omega)
          obtain ⟨r, hr⟩ : ∃ r, s - 1 = r := ⟨_, rfl⟩
          rw [hr] at hx e11
          have hrs : (r : Int) < (s : Int) := by omega
          have t1 := hT.cell_ r (intJ_get hx)
          clear hx hlp hr hTl
          have c0 := hk.cell_ 0 rfl
          have c1 := hk.cell_ 1 rfl
          have c2 := hk.cell_ 2 rfl
          go_wp2_with fail
          go_ret2
          exact ⟨x, 0, rfl, hB, HE.out⟩
end Go.Proofs.YtecaaimaeaocbaaDoor
