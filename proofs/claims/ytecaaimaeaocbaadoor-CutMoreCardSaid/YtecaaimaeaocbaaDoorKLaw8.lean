/- CutMore: the walk. -/
import Derived.Test.YtecaaimaeaocbaaDoorKMoreP
import Derived.Test.YtecaaimaeaocbaaDoorKOut
import Derived.Deep.DeepCutAuto
namespace Go.Proofs.YtecaaimaeaocbaaDoor
open Go Go.RowKit
theorem et_ask : ElemT Tryd.prog 22 45 2 := elemT_mk Tryd.underlying22 (z := .agg #[.int .i64 0, .int .i64 0]) (bytes := 16) (by kernel_rfl) rfl (by omega) (by omega)
theorem ask_len2 (a : Ask) : (Ask.enc a).length = 2 := rfl
theorem ask_one (a : Ask) : ∀ u ∈ Ask.enc a, u.oneCell' = true := fun u hu => by
  simp [Ask.enc] at hu
  rcases hu with rfl | rfl <;> rfl
theorem refKValidC_is (L K : Int) (A : Option Addr) (c : Nat) (l : List Ask) (w : World) (hS : Slc Ask.enc 2 w w.heap.size A l) {v : Bool} (h : validK L K l = v) :
    Calls Tryd.prog 26 #[.agg #[.int .i64 L, .int .i64 K, .slice A l.length c]] w fun e w' => e = .returned (.bool v) ∧ Below w.heap.size w w' := by
  subst h; exact refKValid_any L K A c l w hS
theorem few_is (L K : Int) (A : Option Addr) (c : Nat) (l : List Ask) (most : Int) (w : World) (hS : Slc Ask.enc 2 w w.heap.size A l) (hl : l.length ≤ 1000) (hm : 0 ≤ most ∧ most ≤ 100) {v : Bool} (h : fewB most l = v) :
    Calls Tryd.prog 29 #[.agg #[.int .i64 L, .int .i64 K, .slice A l.length c], .int .i64 most] w fun e w' => e = .returned (.bool v) ∧ Below w.heap.size w w' := by
  subst h; exact few_any L K A c l most w hS hl hm
theorem least_n (L K : Int) (A : Option Addr) (c n : Nat) (l : List Ask) (w : World) (hS : Slc Ask.enc 2 w w.heap.size A l) (hn : l.length = n) :
    Calls Tryd.prog 30 #[.agg #[.int .i64 L, .int .i64 K, .slice A n c]] w (LeastPost L K l w) := by
  subst hn; exact least_any L K A c l w hS
theorem tmod_nat {x : Int} {m : Nat} (hx : 0 ≤ x) (hm : 0 < m) : ∃ q : Nat, q < m ∧ x.tmod (m : Int) = (q : Int) := by
  rw [Int.tmod_eq_emod_of_nonneg hx]
  have h3 := Int.emod_nonneg x (show (m : Int) ≠ 0 by omega)
  have h4 := Int.emod_lt_of_pos x (show (0 : Int) < m by omega)
  exact ⟨(x % (m : Int)).toNat, by omega, by omega⟩
set_option maxRecDepth 100000 in
set_option maxHeartbeats 4000000 in
theorem more_walk (L K : Int) (A : Option Addr) (c : Nat) (l : List Ask) (p0 p1 p2 : Int) (w : World) (hS : Slc Ask.enc 2 w w.heap.size A l) (h0 : 0 ≤ p0 ∧ p0 ≤ 255) (h1 : 0 ≤ p1 ∧ p1 ≤ 255) (h2 : 0 ≤ p2 ∧ p2 ≤ 255) :
    Calls Tryd.prog 7 #[.agg #[.int .i64 L, .int .i64 K, .slice A l.length c], .agg #[.int .u8 p0, .int .u8 p1, .int .u8 p2]] w fun e w' => e = .returned (.bool true) ∧ Below w.heap.size w w' := by
  have hzz : (w.alloc (.cells #[.int .i64 L, .int .i64 K, .slice A l.length c] 24)).heap.size = w.heap.size + 1 := by simp
  have hk := (Blk.new w 24 #[.int .i64 L, .int .i64 K, .slice A l.length c]).alloc (.cells #[.int .u8 p0, .int .u8 p1, .int .u8 p2] 43)
  have hm := Blk.new (w.alloc (.cells #[.int .i64 L, .int .i64 K, .slice A l.length c] 24)) 43 #[.int .u8 p0, .int .u8 p1, .int .u8 p2]
  rw [hzz] at hm
  have hB := ((Below.refl w.heap.size w).alloc (Nat.le_refl _) (.cells #[.int .i64 L, .int .i64 K, .slice A l.length c] 24)).alloc (by omega) (.cells #[.int .u8 p0, .int .u8 p1, .int .u8 p2] 43)
  clear hzz
  go_enter Tryd.func7, Tryd.ntmps7
  go_upto_region 1 with fail
  generalize (w.alloc (.cells #[.int .i64 L, .int .i64 K, .slice A l.length c] 24)).alloc (.cells #[.int .u8 p0, .int .u8 p1, .int .u8 p2] 43) = W at *
  have c0 := hk.cell_ 0 rfl
  have c1 := hk.cell_ 1 rfl
  have c2 := hk.cell_ 2 rfl
  have m0 := hm.cell_ 0 rfl
  have m1 := hm.cell_ 1 rfl
  have m2 := hm.cell_ 2 rfl
  obtain ⟨v, hv⟩ : ∃ v, validK L K l = v := ⟨_, rfl⟩
  have HV := hide hv
  clear hv
  go_wp2_with fail
  refine (refKValidC_is L K A c l _ (hS.on hB) HV.out).mono ?_
  rintro e W ⟨rfl, hb⟩
  clear c0 c1 c2 m0 m1 m2
  replace hk := hk.below hb hk.lt
  replace hm := hm.below hb hm.lt
  replace hB := hB.trans (hb.mono hB.size)
  clear hb
  have c0 := hk.cell_ 0 rfl
  have c1 := hk.cell_ 1 rfl
  have c2 := hk.cell_ 2 rfl
  have m0 := hm.cell_ 0 rfl
  have m1 := hm.cell_ 1 rfl
  have m2 := hm.cell_ 2 rfl
  cases v
  case false =>
    go_wp2_with fail
    refine (kawake_any _).mono ?_
    rintro e W ⟨rfl, hb⟩
    clear c0 c1 c2 m0 m1 m2
    replace hk := hk.below hb hk.lt
    replace hm := hm.below hb hm.lt
    replace hB := hB.trans (hb.mono hB.size)
    clear hb
    have c0 := hk.cell_ 0 rfl
    have c1 := hk.cell_ 1 rfl
    have c2 := hk.cell_ 2 rfl
    have m0 := hm.cell_ 0 rfl
    have m1 := hm.cell_ 1 rfl
    have m2 := hm.cell_ 2 rfl
    go_wp2_with fail
    go_ret
    exact ⟨rfl, hB⟩
  have HVK := hide (validK_iff.1 HV.out)
  have hl8 := HVK.out.few
  obtain ⟨u, hu⟩ : ∃ u, fewB 10 l = u := ⟨_, rfl⟩
  have HU := hide hu
  clear hu
  go_wp2_with fail
  refine (few_is L K A c l 10 _ (hS.on hB) (by omega) ⟨by omega, by omega⟩ HU.out).mono ?_
  rintro e W ⟨rfl, hb⟩
  clear c0 c1 c2 m0 m1 m2
  replace hk := hk.below hb hk.lt
  replace hm := hm.below hb hm.lt
  replace hB := hB.trans (hb.mono hB.size)
  clear hb
  have c0 := hk.cell_ 0 rfl
  have c1 := hk.cell_ 1 rfl
  have c2 := hk.cell_ 2 rfl
  have m0 := hm.cell_ 0 rfl
  have m1 := hm.cell_ 1 rfl
  have m2 := hm.cell_ 2 rfl
  cases u
  case false =>
    go_wp2_with fail
    refine (kawake_any _).mono ?_
    rintro e W ⟨rfl, hb⟩
    clear c0 c1 c2 m0 m1 m2
    replace hk := hk.below hb hk.lt
    replace hm := hm.below hb hm.lt
    replace hB := hB.trans (hb.mono hB.size)
    clear hb
    have c0 := hk.cell_ 0 rfl
    have c1 := hk.cell_ 1 rfl
    have c2 := hk.cell_ 2 rfl
    have m0 := hm.cell_ 0 rfl
    have m1 := hm.cell_ 1 rfl
    have m2 := hm.cell_ 2 rfl
    go_wp2_with fail
    go_ret
    exact ⟨rfl, hB⟩
  have HT : Hid ((wdG K l).length ≤ 10) := by
    have := few_len HVK.out HU.out
    show _ ≤ _
    omega
  go_wp2_with fail
  refine (least_any L K A c l _ (hS.on hB)).mono ?_
  rintro e W ⟨n0, E0, rfl, hb, hLV⟩
  clear c0 c1 c2 m0 m1 m2
  replace hk := hk.below hb hk.lt
  replace hm := hm.below hb hm.lt
  replace hB := hB.trans (hb.mono hB.size)
  clear hb
  have c0 := hk.cell_ 0 rfl
  have c1 := hk.cell_ 1 rfl
  have c2 := hk.cell_ 2 rfl
  have m0 := hm.cell_ 0 rfl
  have m1 := hm.cell_ 1 rfl
  have m2 := hm.cell_ 2 rfl
  obtain ⟨rfl, n, rfl, hn⟩ := least_ok hLV HVK.out HT.out
  have HN := hide hn
  clear hLV hn
  obtain ⟨hL1, hL2⟩ := HVK.out.hL
  obtain ⟨hK1, hK2⟩ := HVK.out.hK
  have hlt2 := hm.lt
  have e1 : IntKind.i64.wrap p0 = p0 := IntWalk.i64_in _ (by omega)
  have e2 : IntKind.i64.wrap (L + p0) = L + p0 := IntWalk.i64_in _ (by omega)
  go_wp2_with fail
  have z_c0 := hide (fun w' (hb : Below W.heap.size W w') => Since.later hb c0)
  have z_c1 := hide (fun w' (hb : Below W.heap.size W w') => Since.later hb c1)
  have z_c2 := hide (fun w' (hb : Below W.heap.size W w') => Since.later hb c2)
  have z_m0 := hide (fun w' (hb : Below W.heap.size W w') => Since.later hb m0)
  have z_m1 := hide (fun w' (hb : Below W.heap.size W w') => Since.later hb m1)
  have z_m2 := hide (fun w' (hb : Below W.heap.size W w') => Since.later hb m2)
  have hok : FldOk W ([⟨3, .ptr, (.cells #[.int .i64 0, .int .i64 0, .slice none 0 0] 24), 6, (.cells #[.int .i64 L, .int .i64 K, .slice A l.length c] 24)⟩, ⟨4, .ptr, (.cells #[.int .i64 0, .int .i64 0, .slice none 0 0] 24), 7, (.cells #[.int .i64 L, .int .i64 K, .slice A l.length c] 24)⟩, ⟨5, .ptr, (.cells #[.int .i64 0, .int .i64 0, .slice none 0 0] 24), 8, (.cells #[.int .i64 L, .int .i64 K, .slice A l.length c] 24)⟩]) [] := FldOk.nil_
  refine wp_region_both 9 [0, 1, 2] [3, 4, 5, 6, 7, 8] [⟨3, .ptr, (.cells #[.int .i64 0, .int .i64 0, .slice none 0 0] 24), 6, (.cells #[.int .i64 L, .int .i64 K, .slice A l.length c] 24)⟩, ⟨4, .ptr, (.cells #[.int .i64 0, .int .i64 0, .slice none 0 0] 24), 7, (.cells #[.int .i64 L, .int .i64 K, .slice A l.length c] 24)⟩, ⟨5, .ptr, (.cells #[.int .i64 0, .int .i64 0, .slice none 0 0] 24), 8, (.cells #[.int .i64 L, .int .i64 K, .slice A l.length c] 24)⟩] [] (fun f hf => by cases hf) (by kernel_rfl) (by kernel_rfl) (by kernel_rfl) (by kernel_rfl) (by kernel_rfl) (by simp) ?_
  apply Exists.intro
  refine ⟨fun W1 hc0 => ?_, ?_⟩
  · have hb := hc0.nil_
    have y_c0 := Since.cell (z_c0.out W1 hb)
    have y_c1 := Since.cell (z_c1.out W1 hb)
    have y_c2 := Since.cell (z_c2.out W1 hb)
    have y_m0 := Since.cell (z_m0.out W1 hb)
    have y_m1 := Since.cell (z_m1.out W1 hb)
    have y_m2 := Since.cell (z_m2.out W1 hb)
    replace hk := hk.below hb hk.lt
    replace hm := hm.below hb hm.lt
    replace hB := hB.trans (hb.mono hB.size)
    dsimp only [pick, List.filterMap, List.getElem?_cons_succ, List.getElem?_cons_zero]
    repeat (go_big_quiet_step ((fail)))
    exact wpQuiet_nil rfl
  · refine ownWalk_alloc ⟨3, .ptr, (.cells #[.int .i64 0, .int .i64 0, .slice none 0 0] 24), 6, (.cells #[.int .i64 L, .int .i64 K, .slice A l.length c] 24)⟩ hok (by kernel_rfl) rfl rfl rfl rfl (fun _ => rfl) (by simp) (by simp) (fun h => absurd h (by simp)) ?_
    intro hxb
    simp only [Shape.val, List.setIfInBounds_toArray, List.set_cons_succ, List.set_cons_zero]
    refine ownWalk_alloc ⟨4, .ptr, (.cells #[.int .i64 0, .int .i64 0, .slice none 0 0] 24), 7, (.cells #[.int .i64 L, .int .i64 K, .slice A l.length c] 24)⟩ hok (by kernel_rfl) rfl rfl rfl rfl (fun _ => rfl) (by simp) (by simp) (fun h => absurd h (by simp)) ?_
    intro hyb
    simp only [Shape.val, List.setIfInBounds_toArray, List.set_cons_succ, List.set_cons_zero]
    refine ownWalk_alloc ⟨5, .ptr, (.cells #[.int .i64 0, .int .i64 0, .slice none 0 0] 24), 8, (.cells #[.int .i64 L, .int .i64 K, .slice A l.length c] 24)⟩ hok (by kernel_rfl) rfl rfl rfl rfl (fun _ => rfl) (by simp) (by simp) (fun h => absurd h (by simp)) ?_
    intro hzb
    simp only [Shape.val, List.setIfInBounds_toArray, List.set_cons_succ, List.set_cons_zero]
    refine ownWalk_fill (cs := #[.int .i64 0, .int .i64 0, .slice none 0 0]) (cs' := #[.int .i64 L, .int .i64 K, .slice A l.length c]) ⟨3, .ptr, (.cells #[.int .i64 0, .int .i64 0, .slice none 0 0] 24), 6, (.cells #[.int .i64 L, .int .i64 K, .slice A l.length c] 24)⟩ hok (by kernel_rfl) rfl rfl rfl rfl rfl rfl rfl rfl (by kernel_rfl) rfl (by simp [Value.oneCell']) rfl rfl (by simp) (by simp) (by simp) rfl ?_ (by simp)
    refine ownWalk_fill (cs := #[.int .i64 0, .int .i64 0, .slice none 0 0]) (cs' := #[.int .i64 L, .int .i64 K, .slice A l.length c]) ⟨4, .ptr, (.cells #[.int .i64 0, .int .i64 0, .slice none 0 0] 24), 7, (.cells #[.int .i64 L, .int .i64 K, .slice A l.length c] 24)⟩ hok (by kernel_rfl) rfl rfl rfl rfl rfl rfl rfl rfl (by kernel_rfl) rfl (by simp [Value.oneCell']) rfl rfl (by simp) (by simp) (by simp) rfl ?_ (by simp)
    refine ownWalk_fill (cs := #[.int .i64 0, .int .i64 0, .slice none 0 0]) (cs' := #[.int .i64 L, .int .i64 K, .slice A l.length c]) ⟨5, .ptr, (.cells #[.int .i64 0, .int .i64 0, .slice none 0 0] 24), 8, (.cells #[.int .i64 L, .int .i64 K, .slice A l.length c] 24)⟩ hok (by kernel_rfl) rfl rfl rfl rfl rfl rfl rfl rfl (by kernel_rfl) rfl (by simp [Value.oneCell']) rfl rfl (by simp) (by simp) (by simp) rfl ?_ (by simp)
    refine ownWalk_nil ?_
    intro w' hc0 hD
    have hb := hc0.nil_
    obtain ⟨hxge, hx⟩ := hD.box.get (x := ⟨3, .ptr, (.cells #[.int .i64 0, .int .i64 0, .slice none 0 0] 24), 6, (.cells #[.int .i64 L, .int .i64 K, .slice A l.length c] 24)⟩) (o := (.cells #[.int .i64 L, .int .i64 K, .slice A l.length c] 24)) (by simp) rfl rfl
    replace hx : Blk _ _ _ _ := hx
    obtain ⟨hyge, hy⟩ := hD.box.get (x := ⟨4, .ptr, (.cells #[.int .i64 0, .int .i64 0, .slice none 0 0] 24), 7, (.cells #[.int .i64 L, .int .i64 K, .slice A l.length c] 24)⟩) (o := (.cells #[.int .i64 L, .int .i64 K, .slice A l.length c] 24)) (by simp) rfl rfl
    replace hy : Blk _ _ _ _ := hy
    obtain ⟨hzge, hz⟩ := hD.box.get (x := ⟨5, .ptr, (.cells #[.int .i64 0, .int .i64 0, .slice none 0 0] 24), 8, (.cells #[.int .i64 L, .int .i64 K, .slice A l.length c] 24)⟩) (o := (.cells #[.int .i64 L, .int .i64 K, .slice A l.length c] 24)) (by simp) rfl rfl
    replace hz : Blk _ _ _ _ := hz
    have hx_hy := hD.box.apart (x := ⟨3, .ptr, (.cells #[.int .i64 0, .int .i64 0, .slice none 0 0] 24), 6, (.cells #[.int .i64 L, .int .i64 K, .slice A l.length c] 24)⟩) (y := ⟨4, .ptr, (.cells #[.int .i64 0, .int .i64 0, .slice none 0 0] 24), 7, (.cells #[.int .i64 L, .int .i64 K, .slice A l.length c] 24)⟩) (by simp) (by simp) (by simp) rfl rfl
    have hx_hz := hD.box.apart (x := ⟨3, .ptr, (.cells #[.int .i64 0, .int .i64 0, .slice none 0 0] 24), 6, (.cells #[.int .i64 L, .int .i64 K, .slice A l.length c] 24)⟩) (y := ⟨5, .ptr, (.cells #[.int .i64 0, .int .i64 0, .slice none 0 0] 24), 8, (.cells #[.int .i64 L, .int .i64 K, .slice A l.length c] 24)⟩) (by simp) (by simp) (by simp) rfl rfl
    have hy_hz := hD.box.apart (x := ⟨4, .ptr, (.cells #[.int .i64 0, .int .i64 0, .slice none 0 0] 24), 7, (.cells #[.int .i64 L, .int .i64 K, .slice A l.length c] 24)⟩) (y := ⟨5, .ptr, (.cells #[.int .i64 0, .int .i64 0, .slice none 0 0] 24), 8, (.cells #[.int .i64 L, .int .i64 K, .slice A l.length c] 24)⟩) (by simp) (by simp) (by simp) rfl rfl
    clear hD
    try simp only [List.drop_succ_cons, List.drop_zero]
    clear z_c0 z_c1 z_c2 z_m0 z_m1 z_m2
    have hWge := hB.size
    clear c0 c1 c2 m0 m1 m2
    replace hk := hk.below hb hk.lt
    replace hm := hm.below hb hm.lt
    replace hB := hB.trans (hb.mono hB.size)
    clear hb hok hc0
    obtain ⟨W, rfl⟩ : ∃ W : World, W = w' := ⟨_, rfl⟩
    have c0 := hk.cell_ 0 rfl
    have c1 := hk.cell_ 1 rfl
    have c2 := hk.cell_ 2 rfl
    have m0 := hm.cell_ 0 rfl
    have m1 := hm.cell_ 1 rfl
    have m2 := hm.cell_ 2 rfl
    have x0 := hx.cell_ 0 rfl
    have x1 := hx.cell_ 1 rfl
    have x2 := hx.cell_ 2 rfl
    have y0 := hy.cell_ 0 rfl
    have y1 := hy.cell_ 1 rfl
    have y2 := hy.cell_ 2 rfl
    have z0 := hz.cell_ 0 rfl
    have z1 := hz.cell_ 1 rfl
    have z2 := hz.cell_ 2 rfl
    go_upto_region 5 with fail
    have hL11 : L ≤ min 1000 (L + p0) := by omega
    have hL12 : min 1000 (L + p0) ≤ 1000 := by omega
    go_upto_region 6 with (refine wpList_store_at rfl 3 _ _ rfl (.int .i64 ((min 1000 (L + p0)))) hx rfl rfl (by kernel_rfl) rfl (by simp) rfl ?_; intro W2 hx2 hc2)
    clear c0 c1 c2 m0 m1 m2 x0 x1 x2 y0 y1 y2 z0 z1 z2
    replace hy := hy.chg1 hc2 (by omega)
    replace hz := hz.chg1 hc2 (by omega)
    replace hk := hk.chg1 hc2 (by omega)
    replace hm := hm.chg1 hc2 (by omega)
    replace hB := hB.trans (hc2.below1 hB.size (by omega))
    clear hx hc2
    have hx : Blk W2 hxb 24 #[.int .i64 ((min 1000 (L + p0))), .int .i64 K, .slice A l.length c] := hx2
    clear hx2
    try dsimp only [Act.put]
    obtain ⟨W, rfl⟩ : ∃ X : World, X = W2 := ⟨_, rfl⟩
    obtain ⟨K1, hK1e⟩ : ∃ k : Nat, K + 1 = (k : Int) := ⟨(K + 1).toNat, by omega⟩
    have hK1p : 0 < K1 := by omega
    have hnz : ((K1 : Int) == 0) = false := by
      have h9 : (K1 : Int) ≠ 0 := by omega
      simpa using h9
    have e3 : IntKind.i64.wrap p1 = p1 := IntWalk.i64_in _ (by omega)
    have e4 : IntKind.i64.wrap (K + 1) = (K1 : Int) := by rw [hK1e]; exact IntWalk.i64_in _ (by omega)
    obtain ⟨r, hr1, hr2⟩ := tmod_nat h1.1 hK1p
    have e5 : IntKind.i64.wrap (r : Int) = (r : Int) := IntWalk.i64_in _ (by omega)
    have e6 : IntKind.i64.wrap (K - (r : Int)) = K - (r : Int) := IntWalk.i64_in _ (by omega)
    have hrK : (r : Int) ≤ K := by omega
    clear hK1e
    have c0 := hk.cell_ 0 rfl
    have c1 := hk.cell_ 1 rfl
    have c2 := hk.cell_ 2 rfl
    have m0 := hm.cell_ 0 rfl
    have m1 := hm.cell_ 1 rfl
    have m2 := hm.cell_ 2 rfl
    have x0 := hx.cell_ 0 rfl
    have x1 := hx.cell_ 1 rfl
    have x2 := hx.cell_ 2 rfl
    have y0 := hy.cell_ 0 rfl
    have y1 := hy.cell_ 1 rfl
    have y2 := hy.cell_ 2 rfl
    have z0 := hz.cell_ 0 rfl
    have z1 := hz.cell_ 1 rfl
    have z2 := hz.cell_ 2 rfl
    go_wp2_with fail
    refine wp_region_quiet_tail (C := fun w' => ∃ u : Since W, w' = u.w) 11 (by kernel_rfl) (by kernel_rfl) (Since.start W) ?_
    simp only [List.take_succ_cons, List.take_zero, List.drop_succ_cons, List.drop_zero]
    have y_c0 := Since.cell c0
    have y_c1 := Since.cell c1
    have y_c2 := Since.cell c2
    have y_m0 := Since.cell m0
    have y_m1 := Since.cell m1
    have y_m2 := Since.cell m2
    have y_x0 := Since.cell x0
    have y_x1 := Since.cell x1
    have y_x2 := Since.cell x2
    have y_y0 := Since.cell y0
    have y_y1 := Since.cell y1
    have y_y2 := Since.cell y2
    have y_z0 := Since.cell z0
    have y_z1 := Since.cell z1
    have y_z2 := Since.cell z2
    clear c0 c1 c2 m0 m1 m2 x0 x1 x2 y0 y1 y2 z0 z1 z2
    repeat (go_big_quiet_step ((fail)))
    refine wpQuiet_nil ?_
    rintro W ⟨⟨_, hb⟩, rfl⟩
    try dsimp only at hb ⊢
    clear y_c0 y_c1 y_c2 y_m0 y_m1 y_m2 y_x0 y_x1 y_x2 y_y0 y_y1 y_y2 y_z0 y_z1 y_z2
    replace hk := hk.below hb hk.lt
    replace hm := hm.below hb hm.lt
    replace hx := hx.below hb hx.lt
    replace hy := hy.below hb hy.lt
    replace hz := hz.below hb hz.lt
    replace hB := hB.trans (hb.mono hB.size)
    clear hb
    have c0 := hk.cell_ 0 rfl
    have c1 := hk.cell_ 1 rfl
    have c2 := hk.cell_ 2 rfl
    have m0 := hm.cell_ 0 rfl
    have m1 := hm.cell_ 1 rfl
    have m2 := hm.cell_ 2 rfl
    have x0 := hx.cell_ 0 rfl
    have x1 := hx.cell_ 1 rfl
    have x2 := hx.cell_ 2 rfl
    have y0 := hy.cell_ 0 rfl
    have y1 := hy.cell_ 1 rfl
    have y2 := hy.cell_ 2 rfl
    have z0 := hz.cell_ 0 rfl
    have z1 := hz.cell_ 1 rfl
    have z2 := hz.cell_ 2 rfl
    refine wpList_store_at rfl 3 _ _ rfl (.int .i64 (K - (r : Int))) hy rfl rfl (by kernel_rfl) rfl (by simp) rfl ?_
    intro W3 hy3 hc3
    clear c0 c1 c2 m0 m1 m2 x0 x1 x2 y0 y1 y2 z0 z1 z2
    replace hx := hx.chg1 hc3 (by omega)
    replace hz := hz.chg1 hc3 (by omega)
    replace hk := hk.chg1 hc3 (by omega)
    replace hm := hm.chg1 hc3 (by omega)
    replace hB := hB.trans (hc3.below1 hB.size (by omega))
    clear hy hc3 hnz e3 e4 e5 e6 hr2
    have hy : Blk W3 hyb 24 #[.int .i64 L, .int .i64 (K - (r : Int)), .slice A l.length c] := hy3
    clear hy3
    try dsimp only [Act.put]
    obtain ⟨W, rfl⟩ : ∃ X : World, X = W3 := ⟨_, rfl⟩
    have hwz := hz.lt
    have hbw := hB.size
    have q2 := (hk.alloc (.cells #[] 45)).cell_ 2 rfl
    have c0 := hk.cell_ 0 rfl
    have c1 := hk.cell_ 1 rfl
    have c2 := hk.cell_ 2 rfl
    have m0 := hm.cell_ 0 rfl
    have m1 := hm.cell_ 1 rfl
    have m2 := hm.cell_ 2 rfl
    have x0 := hx.cell_ 0 rfl
    have x1 := hx.cell_ 1 rfl
    have x2 := hx.cell_ 2 rfl
    have y0 := hy.cell_ 0 rfl
    have y1 := hy.cell_ 1 rfl
    have y2 := hy.cell_ 2 rfl
    have z0 := hz.cell_ 0 rfl
    have z1 := hz.cell_ 1 rfl
    have z2 := hz.cell_ 2 rfl
    go_upto_region 8 with (first | (at_builtin; refine wpList_app_own (base := W.heap.size) (xs := ([] : List Ask)) (ys := l) _ _ rfl rfl et_ask (Own.empty_ (Blk.new W 45 #[]) (Nat.le_refl _)) rfl rfl ((hS.on hB).on ((Below.refl _ W).alloc (Nat.le_refl _) _)) rfl ask_len2 ask_one (by simp <;> omega) (by simp) ?_; intro v9 W9 o9 hb9 hg9; rw [List.nil_append] at o9; obtain ⟨A9, c9, rfl, _⟩ := o9.form ask_len2; have hbT := ((Below.refl W.heap.size W).alloc (Nat.le_refl _) (.cells #[] 45)).trans hb9; have hz9 := hz.below hbT hwz) | (refine wpList_store_at rfl 22 _ _ rfl (.slice A9 l.length c9) hz9 rfl rfl (by kernel_rfl) rfl (by simp) rfl ?_; intro W10 hz10 hc10))
    clear c0 c1 c2 m0 m1 m2 x0 x1 x2 y0 y1 y2 z0 z1 z2
    have hgr : W9.grownBy W10 (some hzb) := ⟨hc10.os, hc10.tape, hc10.output, hc10.size, fun k hk hne => hc10.block k hk fun e => hne (by rw [e])⟩
    have o10 := own_kept o9 hgr fun b hb he => by injection he with he; exact own_ne_blk o9 hz9 (by decide) b hb he
    replace hx := (hx.below hbT hx.lt).chg1 hc10 (by omega)
    replace hy := (hy.below hbT hy.lt).chg1 hc10 (by omega)
    replace hm := (hm.below hbT hm.lt).chg1 hc10 (by omega)
    replace hk := (hk.below hbT hk.lt).chg1 hc10 (by omega)
    have hB9 := hB.trans (hbT.mono hB.size)
    replace hB := hB9.trans (hc10.below1 hB9.size (by omega))
    have hz : Blk W10 hzb 24 #[.int .i64 L, .int .i64 K, .slice A9 l.length c9] := hz10
    clear q2 hz10 hc10 hgr o9 hb9 hg9 hz9 hbT hB9 hwz
    try dsimp only [Act.put]
    obtain ⟨W, rfl⟩ : ∃ X : World, X = W10 := ⟨_, rfl⟩
    have c0 := hk.cell_ 0 rfl
    have c1 := hk.cell_ 1 rfl
    have c2 := hk.cell_ 2 rfl
    have m0 := hm.cell_ 0 rfl
    have m1 := hm.cell_ 1 rfl
    have m2 := hm.cell_ 2 rfl
    have x0 := hx.cell_ 0 rfl
    have x1 := hx.cell_ 1 rfl
    have x2 := hx.cell_ 2 rfl
    have y0 := hy.cell_ 0 rfl
    have y1 := hy.cell_ 1 rfl
    have y2 := hy.cell_ 2 rfl
    have z0 := hz.cell_ 0 rfl
    have z1 := hz.cell_ 1 rfl
    have z2 := hz.cell_ 2 rfl
    by_cases hl0 : 0 < l.length
    · have hl0i : (0 : Int) < (l.length : Int) := by omega
      have hnz : ((l.length : Int) == 0) = false := by
        have h9 : (l.length : Int) ≠ 0 := by omega
        simpa using h9
      obtain ⟨i, hi1, hi2⟩ := tmod_nat h2.1 hl0
      have e3 : IntKind.i64.wrap p2 = p2 := IntWalk.i64_in _ (by omega)
      have e4 : IntKind.i64.wrap (i : Int) = (i : Int) := IntWalk.i64_in _ (by omega)
      have hii : (i : Int) < (l.length : Int) := by omega
      obtain ⟨a, ha⟩ : ∃ a, l[i]? = some a := ⟨_, List.getElem?_eq_getElem hi1⟩
      have hac := (HVK.out.ask a (List.mem_of_getElem? ha)).2
      obtain ⟨k0, hk0⟩ : ∃ k : Nat, a.cnt = (k : Int) := ⟨a.cnt.toNat, by omega⟩
      have HHA : Hid (0 ≤ ((k0 / 2 : Nat) : Int) ∧ ((k0 / 2 : Nat) : Int) ≤ a.cnt) := by show _ ∧ _; omega
      have e5 : (k0 : Int).tdiv 2 = ((k0 / 2 : Nat) : Int) := by rw [Int.tdiv_eq_ediv_of_nonneg (by omega)]; rfl
      obtain ⟨h, hh⟩ : ∃ h, k0 / 2 = h := ⟨_, rfl⟩
      rw [hh] at e5 HHA
      have e6 : IntKind.i64.wrap (h : Int) = (h : Int) := IntWalk.i64_in _ (by omega)
      obtain ⟨g, js, rfl, hge, hG⟩ := own_blkF o10 (by rintro rfl; simp at ha)
      have t1 := hG.cell_ (i * 2 + 1) (v := .int .i64 (k0 : Int)) (by rw [← hk0]; exact blkF_get (f := Ask.enc) (n := 2) ask_len2 ha (j := 1) rfl)
      have HSZ : Hid (i * 2 + 1 < (l.flatMap Ask.enc ++ js).toArray.size) := (Array.getElem?_eq_some_iff.1 (blkF_get (f := Ask.enc) (n := 2) ask_len2 (js := js) ha (j := 1) rfl)).1
      have HA := hide ha
      have hne := hG.ne_ hz (by decide)
      have hnx := hG.ne_ hx (by decide)
      have hny := hG.ne_ hy (by decide)
      have hnk := hG.ne_ hk (by decide)
      have hnm := hG.ne_ hm (by decide)
      have hgB : w.heap.size ≤ g := by omega
      clear ha hac hk0 hh o10
      go_upto_region 10 with fail
      go_wp2_with fail
      refine wp_region_quiet_tail (C := fun w' => ∃ u : Since W, w' = u.w) 12 (by kernel_rfl) (by kernel_rfl) (Since.start W) ?_
      simp only [List.take_succ_cons, List.take_zero, List.drop_succ_cons, List.drop_zero]
      have y_c0 := Since.cell c0
      have y_c1 := Since.cell c1
      have y_c2 := Since.cell c2
      have y_m0 := Since.cell m0
      have y_m1 := Since.cell m1
      have y_m2 := Since.cell m2
      have y_x0 := Since.cell x0
      have y_x1 := Since.cell x1
      have y_x2 := Since.cell x2
      have y_y0 := Since.cell y0
      have y_y1 := Since.cell y1
      have y_y2 := Since.cell y2
      have y_z0 := Since.cell z0
      have y_z1 := Since.cell z1
      have y_z2 := Since.cell z2
      have y_t1 := Since.cell t1
      clear c0 c1 c2 m0 m1 m2 x0 x1 x2 y0 y1 y2 z0 z1 z2
      repeat (go_big_quiet_step ((fail)))
      refine wpQuiet_nil ?_
      rintro W ⟨⟨_, hb⟩, rfl⟩
      try dsimp only at hb ⊢
      replace t1 : W.cell? _ = _ := y_t1 ⟨W, hb⟩
      clear y_c0 y_c1 y_c2 y_m0 y_m1 y_m2 y_x0 y_x1 y_x2 y_y0 y_y1 y_y2 y_z0 y_z1 y_z2 y_t1
      replace hk := hk.below hb hk.lt
      replace hm := hm.below hb hm.lt
      replace hx := hx.below hb hx.lt
      replace hy := hy.below hb hy.lt
      replace hz := hz.below hb hz.lt
      replace hG := hG.below hb hG.lt
      replace hB := hB.trans (hb.mono hB.size)
      clear hb
      have c0 := hk.cell_ 0 rfl
      have c1 := hk.cell_ 1 rfl
      have c2 := hk.cell_ 2 rfl
      have m0 := hm.cell_ 0 rfl
      have m1 := hm.cell_ 1 rfl
      have m2 := hm.cell_ 2 rfl
      have x0 := hx.cell_ 0 rfl
      have x1 := hx.cell_ 1 rfl
      have x2 := hx.cell_ 2 rfl
      have y0 := hy.cell_ 0 rfl
      have y1 := hy.cell_ 1 rfl
      have y2 := hy.cell_ 2 rfl
      have z0 := hz.cell_ 0 rfl
      have z1 := hz.cell_ 1 rfl
      have z2 := hz.cell_ 2 rfl
      refine wpList_store_at rfl 3 _ _ rfl (.int .i64 (h : Int)) hG rfl rfl (by kernel_rfl) rfl HSZ.out rfl ?_
      intro W4 hG4 hc4
      rw [List.setIfInBounds_toArray, flat_set (f := Ask.enc) (n := 2) ask_len2 (x' := ⟨a.len, (h : Int)⟩) HA.out (by omega) rfl] at hG4
      clear c0 c1 c2 m0 m1 m2 x0 x1 x2 y0 y1 y2 z0 z1 z2
      replace hx := hx.chg1 hc4 (Ne.symm hnx)
      replace hy := hy.chg1 hc4 (Ne.symm hny)
      replace hz := hz.chg1 hc4 (Ne.symm hne)
      replace hk := hk.chg1 hc4 (Ne.symm hnk)
      replace hm := hm.chg1 hc4 (Ne.symm hnm)
      replace hB := hB.trans (hc4.below1 hB.size hgB)
      have hS9 := blkF_slc (f := Ask.enc) (n := 2) ask_len2 hG4
      have HLE : Hid ((l.set i ⟨a.len, (h : Int)⟩).length = l.length) := List.length_set
      clear hG hG4 hc4 t1 hnz hi2 e3 e4 e5 e6
      try dsimp only [Act.put]
      obtain ⟨W, rfl⟩ : ∃ X : World, X = W4 := ⟨_, rfl⟩
      have c0 := hk.cell_ 0 rfl
      have c1 := hk.cell_ 1 rfl
      have c2 := hk.cell_ 2 rfl
      have m0 := hm.cell_ 0 rfl
      have m1 := hm.cell_ 1 rfl
      have m2 := hm.cell_ 2 rfl
      have x0 := hx.cell_ 0 rfl
      have x1 := hx.cell_ 1 rfl
      have x2 := hx.cell_ 2 rfl
      have y0 := hy.cell_ 0 rfl
      have y1 := hy.cell_ 1 rfl
      have y2 := hy.cell_ 2 rfl
      have z0 := hz.cell_ 0 rfl
      have z1 := hz.cell_ 1 rfl
      have z2 := hz.cell_ 2 rfl
      go_wp2_with fail
      refine (least_n (min 1000 (L + p0)) K A c l.length l _ (hS.on hB) rfl).mono ?_
      rintro e W ⟨n1, E1, rfl, hb, hLV1⟩
      clear c0 c1 c2 m0 m1 m2 x0 x1 x2 y0 y1 y2 z0 z1 z2
      replace hk := hk.below hb hk.lt
      replace hm := hm.below hb hm.lt
      replace hx := hx.below hb hx.lt
      replace hy := hy.below hb hy.lt
      replace hz := hz.below hb hz.lt
      replace hS9 := Slc.on hS9 hb
      replace hB := hB.trans (hb.mono hB.size)
      clear hb
      have c0 := hk.cell_ 0 rfl
      have c1 := hk.cell_ 1 rfl
      have c2 := hk.cell_ 2 rfl
      have m0 := hm.cell_ 0 rfl
      have m1 := hm.cell_ 1 rfl
      have m2 := hm.cell_ 2 rfl
      have x0 := hx.cell_ 0 rfl
      have x1 := hx.cell_ 1 rfl
      have x2 := hx.cell_ 2 rfl
      have y0 := hy.cell_ 0 rfl
      have y1 := hy.cell_ 1 rfl
      have y2 := hy.cell_ 2 rfl
      have z0 := hz.cell_ 0 rfl
      have z1 := hz.cell_ 1 rfl
      have z2 := hz.cell_ 2 rfl
      obtain ⟨rfl, k1, rfl, hk1⟩ := least_ok hLV1 (HVK.out.long hL11 hL12) HT.out
      have hle1 : (k1 : Int) ≤ (n : Int) := by have := more_long HN.out hk1 hL11; omega
      clear hLV1 hk1
      go_wp2_with fail
      refine (least_n L (K - r) A c l.length l _ (hS.on hB) rfl).mono ?_
      rintro e W ⟨n2, E2, rfl, hb, hLV2⟩
      clear c0 c1 c2 m0 m1 m2 x0 x1 x2 y0 y1 y2 z0 z1 z2
      replace hk := hk.below hb hk.lt
      replace hm := hm.below hb hm.lt
      replace hx := hx.below hb hx.lt
      replace hy := hy.below hb hy.lt
      replace hz := hz.below hb hz.lt
      replace hS9 := Slc.on hS9 hb
      replace hB := hB.trans (hb.mono hB.size)
      clear hb
      have c0 := hk.cell_ 0 rfl
      have c1 := hk.cell_ 1 rfl
      have c2 := hk.cell_ 2 rfl
      have m0 := hm.cell_ 0 rfl
      have m1 := hm.cell_ 1 rfl
      have m2 := hm.cell_ 2 rfl
      have x0 := hx.cell_ 0 rfl
      have x1 := hx.cell_ 1 rfl
      have x2 := hx.cell_ 2 rfl
      have y0 := hy.cell_ 0 rfl
      have y1 := hy.cell_ 1 rfl
      have y2 := hy.cell_ 2 rfl
      have z0 := hz.cell_ 0 rfl
      have z1 := hz.cell_ 1 rfl
      have z2 := hz.cell_ 2 rfl
      obtain ⟨rfl, k2, rfl, hk2⟩ := least_ok hLV2 (HVK.out.thin (by omega) (by omega)) (by rw [wdG_thin K (K - r) l, List.length_map]; exact HT.out)
      have hle2 : (k2 : Int) ≤ (n : Int) := by have := more_thin HN.out hk2 (by omega) (by omega); omega
      clear hLV2 hk2
      go_wp2_with fail
      refine (least_n L K (some ⟨g, 0, none⟩) c9 l.length (l.set i ⟨a.len, (h : Int)⟩) _ hS9 HLE.out).mono ?_
      rintro e W ⟨n3, E3, rfl, hb, hLV3⟩
      clear c0 c1 c2 m0 m1 m2 x0 x1 x2 y0 y1 y2 z0 z1 z2
      replace hk := hk.below hb hk.lt
      replace hm := hm.below hb hm.lt
      replace hx := hx.below hb hx.lt
      replace hy := hy.below hb hy.lt
      replace hz := hz.below hb hz.lt
      replace hS9 := Slc.on hS9 hb
      replace hB := hB.trans (hb.mono hB.size)
      clear hb
      have c0 := hk.cell_ 0 rfl
      have c1 := hk.cell_ 1 rfl
      have c2 := hk.cell_ 2 rfl
      have m0 := hm.cell_ 0 rfl
      have m1 := hm.cell_ 1 rfl
      have m2 := hm.cell_ 2 rfl
      have x0 := hx.cell_ 0 rfl
      have x1 := hx.cell_ 1 rfl
      have x2 := hx.cell_ 2 rfl
      have y0 := hy.cell_ 0 rfl
      have y1 := hy.cell_ 1 rfl
      have y2 := hy.cell_ 2 rfl
      have z0 := hz.cell_ 0 rfl
      have z1 := hz.cell_ 1 rfl
      have z2 := hz.cell_ 2 rfl
      obtain ⟨rfl, k3, rfl, hk3⟩ := least_ok hLV3 (HVK.out.less HA.out HHA.out.1 HHA.out.2) (Nat.le_trans (less_len HVK.out HA.out HHA.out.1 HHA.out.2) HT.out)
      have hle3 : (k3 : Int) ≤ (n : Int) := by have := more_less HVK.out HA.out HHA.out.1 HHA.out.2 HN.out hk3; omega
      have hle4 : (0 : Int) ≤ (k3 : Int) := by omega
      clear hLV3 hk3
      go_wp2_with fail
      refine (kawake_any _).mono ?_
      rintro e W ⟨rfl, hb⟩
      clear c0 c1 c2 m0 m1 m2 x0 x1 x2 y0 y1 y2 z0 z1 z2
      replace hk := hk.below hb hk.lt
      replace hm := hm.below hb hm.lt
      replace hx := hx.below hb hx.lt
      replace hy := hy.below hb hy.lt
      replace hz := hz.below hb hz.lt
      replace hS9 := Slc.on hS9 hb
      replace hB := hB.trans (hb.mono hB.size)
      clear hb
      have c0 := hk.cell_ 0 rfl
      have c1 := hk.cell_ 1 rfl
      have c2 := hk.cell_ 2 rfl
      have m0 := hm.cell_ 0 rfl
      have m1 := hm.cell_ 1 rfl
      have m2 := hm.cell_ 2 rfl
      have x0 := hx.cell_ 0 rfl
      have x1 := hx.cell_ 1 rfl
      have x2 := hx.cell_ 2 rfl
      have y0 := hy.cell_ 0 rfl
      have y1 := hy.cell_ 1 rfl
      have y2 := hy.cell_ 2 rfl
      have z0 := hz.cell_ 0 rfl
      have z1 := hz.cell_ 1 rfl
      have z2 := hz.cell_ 2 rfl
      go_wp2_with fail
      go_ret
      exact ⟨rfl, hB⟩
    · have hl0i : ¬ (0 : Int) < (l.length : Int) := by omega
      have hS9 : Slc Ask.enc 2 W W.heap.size A9 l := o10.slc ask_len2
      clear o10
      go_wp2_with fail
      refine (least_n (min 1000 (L + p0)) K A c l.length l _ (hS.on hB) rfl).mono ?_
      rintro e W ⟨n1, E1, rfl, hb, hLV1⟩
      clear c0 c1 c2 m0 m1 m2 x0 x1 x2 y0 y1 y2 z0 z1 z2
      replace hk := hk.below hb hk.lt
      replace hm := hm.below hb hm.lt
      replace hx := hx.below hb hx.lt
      replace hy := hy.below hb hy.lt
      replace hz := hz.below hb hz.lt
      replace hS9 := Slc.on hS9 hb
      replace hB := hB.trans (hb.mono hB.size)
      clear hb
      have c0 := hk.cell_ 0 rfl
      have c1 := hk.cell_ 1 rfl
      have c2 := hk.cell_ 2 rfl
      have m0 := hm.cell_ 0 rfl
      have m1 := hm.cell_ 1 rfl
      have m2 := hm.cell_ 2 rfl
      have x0 := hx.cell_ 0 rfl
      have x1 := hx.cell_ 1 rfl
      have x2 := hx.cell_ 2 rfl
      have y0 := hy.cell_ 0 rfl
      have y1 := hy.cell_ 1 rfl
      have y2 := hy.cell_ 2 rfl
      have z0 := hz.cell_ 0 rfl
      have z1 := hz.cell_ 1 rfl
      have z2 := hz.cell_ 2 rfl
      obtain ⟨rfl, k1, rfl, hk1⟩ := least_ok hLV1 (HVK.out.long hL11 hL12) HT.out
      have hle1 : (k1 : Int) ≤ (n : Int) := by have := more_long HN.out hk1 hL11; omega
      clear hLV1 hk1
      go_wp2_with fail
      refine (least_n L (K - r) A c l.length l _ (hS.on hB) rfl).mono ?_
      rintro e W ⟨n2, E2, rfl, hb, hLV2⟩
      clear c0 c1 c2 m0 m1 m2 x0 x1 x2 y0 y1 y2 z0 z1 z2
      replace hk := hk.below hb hk.lt
      replace hm := hm.below hb hm.lt
      replace hx := hx.below hb hx.lt
      replace hy := hy.below hb hy.lt
      replace hz := hz.below hb hz.lt
      replace hS9 := Slc.on hS9 hb
      replace hB := hB.trans (hb.mono hB.size)
      clear hb
      have c0 := hk.cell_ 0 rfl
      have c1 := hk.cell_ 1 rfl
      have c2 := hk.cell_ 2 rfl
      have m0 := hm.cell_ 0 rfl
      have m1 := hm.cell_ 1 rfl
      have m2 := hm.cell_ 2 rfl
      have x0 := hx.cell_ 0 rfl
      have x1 := hx.cell_ 1 rfl
      have x2 := hx.cell_ 2 rfl
      have y0 := hy.cell_ 0 rfl
      have y1 := hy.cell_ 1 rfl
      have y2 := hy.cell_ 2 rfl
      have z0 := hz.cell_ 0 rfl
      have z1 := hz.cell_ 1 rfl
      have z2 := hz.cell_ 2 rfl
      obtain ⟨rfl, k2, rfl, hk2⟩ := least_ok hLV2 (HVK.out.thin (by omega) (by omega)) (by rw [wdG_thin K (K - r) l, List.length_map]; exact HT.out)
      have hle2 : (k2 : Int) ≤ (n : Int) := by have := more_thin HN.out hk2 (by omega) (by omega); omega
      clear hLV2 hk2
      go_wp2_with fail
      refine (least_n L K A9 c9 l.length l _ hS9 rfl).mono ?_
      rintro e W ⟨n3, E3, rfl, hb, hLV3⟩
      clear c0 c1 c2 m0 m1 m2 x0 x1 x2 y0 y1 y2 z0 z1 z2
      replace hk := hk.below hb hk.lt
      replace hm := hm.below hb hm.lt
      replace hx := hx.below hb hx.lt
      replace hy := hy.below hb hy.lt
      replace hz := hz.below hb hz.lt
      replace hS9 := Slc.on hS9 hb
      replace hB := hB.trans (hb.mono hB.size)
      clear hb
      have c0 := hk.cell_ 0 rfl
      have c1 := hk.cell_ 1 rfl
      have c2 := hk.cell_ 2 rfl
      have m0 := hm.cell_ 0 rfl
      have m1 := hm.cell_ 1 rfl
      have m2 := hm.cell_ 2 rfl
      have x0 := hx.cell_ 0 rfl
      have x1 := hx.cell_ 1 rfl
      have x2 := hx.cell_ 2 rfl
      have y0 := hy.cell_ 0 rfl
      have y1 := hy.cell_ 1 rfl
      have y2 := hy.cell_ 2 rfl
      have z0 := hz.cell_ 0 rfl
      have z1 := hz.cell_ 1 rfl
      have z2 := hz.cell_ 2 rfl
      obtain ⟨rfl, k3, rfl, hk3⟩ := least_ok hLV3 HVK.out HT.out
      have hle3 : (k3 : Int) ≤ (n : Int) := by have := (HN.out.one hk3); omega
      have hle4 : (0 : Int) ≤ (k3 : Int) := by omega
      clear hLV3 hk3
      go_wp2_with fail
      refine (kawake_any _).mono ?_
      rintro e W ⟨rfl, hb⟩
      clear c0 c1 c2 m0 m1 m2 x0 x1 x2 y0 y1 y2 z0 z1 z2
      replace hk := hk.below hb hk.lt
      replace hm := hm.below hb hm.lt
      replace hx := hx.below hb hx.lt
      replace hy := hy.below hb hy.lt
      replace hz := hz.below hb hz.lt
      replace hS9 := Slc.on hS9 hb
      replace hB := hB.trans (hb.mono hB.size)
      clear hb
      have c0 := hk.cell_ 0 rfl
      have c1 := hk.cell_ 1 rfl
      have c2 := hk.cell_ 2 rfl
      have m0 := hm.cell_ 0 rfl
      have m1 := hm.cell_ 1 rfl
      have m2 := hm.cell_ 2 rfl
      have x0 := hx.cell_ 0 rfl
      have x1 := hx.cell_ 1 rfl
      have x2 := hx.cell_ 2 rfl
      have y0 := hy.cell_ 0 rfl
      have y1 := hy.cell_ 1 rfl
      have y2 := hy.cell_ 2 rfl
      have z0 := hz.cell_ 0 rfl
      have z1 := hz.cell_ 1 rfl
      have z2 := hz.cell_ 2 rfl
      go_wp2_with fail
      go_ret
      exact ⟨rfl, hB⟩
end Go.Proofs.YtecaaimaeaocbaaDoor
