/- Parts of the proofs of this seat: StabInt, StabMInt, StabIInt, StabSInt, KeyP. Each part says what it proves; no condition beyond those stated there. -/
import Derived.Test.YtehlbomkldnalaaGreatProg
import Derived.WalkKit
import Derived.Shelf.SlSortCmp.Kit1
import Derived.Test.YtehlbomkldnalaaGreatQ1
import Derived.Test.YtehlbomkldnalaaGreatQ18

/- The library's stable sort of int: the walks, over whatever program bears its texts. The exchange and the insertion after the kit's slices.insertionSortCmpFunc at structs. -/
namespace Go.Proofs.YtehlbomkldnalaaGreat
open Go Go.Sort Go.RowKit Go.Lib Go.Shelf Go.Proofs
namespace StabInt
/-- what the walks ask of the program -/
structure Lay (P : Program) : Prop where
 mixed : P.follows .mixedOrders = true
 fIns : P.funcs[107]? = some Tryz.f107
 fSwr : P.funcs[122]? = some Tryz.f122
 fRot : P.funcs[119]? = some Tryz.f119
 fSym : P.funcs[108]? = some Tryz.f108
 fStb : P.funcs[85]? = some Tryz.f85
 fTop : P.funcs[75]? = some Tryz.f75
 eIns : ∀ args w, (callFunc 107 args).run P w = .ok (.enter 107 args) w
 eSwr : ∀ args w, (callFunc 122 args).run P w = .ok (.enter 122 args) w
 eRot : ∀ args w, (callFunc 119 args).run P w = .ok (.enter 119 args) w
 eSym : ∀ args w, (callFunc 108 args).run P w = .ok (.enter 108 args) w
 eStb : ∀ args w, (callFunc 85 args).run P w = .ok (.enter 85 args) w
 tS : P.underlying 72 = some (.slice 3)
 aS : ∀ w, (isAgg 72).run P w = .ok false w
 zS : ∀ w, (Go.sizeOf 72).run P w = .ok 1 w
 vS : ∀ w, (zeroValue 72).run P w = .ok (.slice none 0 0) w
 t3 : P.underlying 3 = some (.int .i64)
 a3 : ∀ w, (isAgg 3).run P w = .ok false w
 z3 : ∀ w, (Go.sizeOf 3).run P w = .ok 1 w
 v3 : ∀ w, (zeroValue 3).run P w = .ok (.int .i64 0) w
 t4 : P.underlying 4 = some .bool
 a4 : ∀ w, (isAgg 4).run P w = .ok false w
 z4 : ∀ w, (Go.sizeOf 4).run P w = .ok 1 w
 v4 : ∀ w, (zeroValue 4).run P w = .ok (.bool false) w
 tU : P.underlying 69 = some (.int .u64)
 aU : ∀ w, (isAgg 69).run P w = .ok false w
 zU : ∀ w, (Go.sizeOf 69).run P w = .ok 1 w
 vU : ∀ w, (zeroValue 69).run P w = .ok (.int .u64 0) w
variable {P : Program} {β : Type} [Inhabited β]
/-- what 'cmp' is asked: in every world that the sort passes through it answers, draws and lays blocks, and turns nothing -/
def Cmp (P : Program) (g : Nat) (cb : Array Value) (enc : β → Value) (cf : β → β → Int) (blk off size : Nat) (w : World) : Prop := CmpLays1 P g cb enc cf blk off size w
def SW (enc : β → Value) (w : World) (blk off m : Nat) (d : Array β) (os : Array Obj) : World := sortWorld enc w blk off m d os
theorem holds_sw_c (enc : β → Value) (w : World) (blk off : Nat) (d dk : Array β) (m : Nat) (os : Array Obj) (hH : Holds enc w blk off d) (hblk : blk < w.heap.size) (hs : dk.size = d.size) : Holds enc (sortWorld enc w blk off m dk os) blk off dk := holds_sortWorld enc w blk off m d dk os hblk hH hs
theorem size_sw_c (enc : β → Value) (w : World) (blk off m : Nat) (dk : Array β) (os : Array Obj) : w.heap.size ≤ (sortWorld enc w blk off m dk os).heap.size := Go.Proofs.SW.le (off := off) ⟨m, os, rfl⟩
theorem swp1_c (enc : β → Value) (w : World) (blk off m : Nat) (dk : Array β) (os : Array Obj) (hblk : blk < w.heap.size) (i j : Nat) (hi : i < dk.size) (hj : j < dk.size) :
  (((SW enc w blk off m dk os).setCell ⟨blk, off + i, none⟩ (enc dk[j]!)).setCell ⟨blk, off + j, none⟩ (enc dk[i]!)).drew = SW enc w blk off (m + 1) (swp dk i j) os := by
 have e : ((SW enc w blk off m dk os).setCell ⟨blk, off + i, none⟩ (enc dk[j]!)).setCell ⟨blk, off + j, none⟩ (enc dk[i]!) = SW enc w blk off m (swp dk i j) os := by
  unfold SW sortWorld
  rw [← putRow_grow enc (Sort.ahead w m) os blk off dk hblk, putRow_swp enc _ blk off dk i j hi hj, putRow_grow enc (Sort.ahead w m) os blk off _ hblk]
 rw [e]
 have := sortWorld_grown_c enc w blk off m 1 (swp dk i j) os #[]
 rw [grow_empty, Array.append_empty] at this
 exact this
/-- a world of the sort's over a world of the sort's -/
theorem SW_again (enc : β → Value) (w : World) (blk off q m : Nat) (dk d : Array β) (os os' : Array Obj) (hblk : blk < w.heap.size) (hs : d.size = dk.size) : SW enc (SW enc w blk off q dk os) blk off m d os' = SW enc w blk off (q + m) d (os ++ os') := by
 unfold SW sortWorld
 exact grow_step_grow enc w os os' q m blk off dk d hblk hs
section
variable (L : Lay P) (enc : β → Value) (hk : OneCell enc)
include L hk
set_option maxHeartbeats 4000000 in
set_option maxRecDepth 1000000 in
theorem swapRange_any (cmp : Value) (blk off cap a b n : Nat) (d : Array β) (w : World) (hH : Holds enc w blk off d) (hblk : blk < w.heap.size) (han : a + n ≤ d.size) (hbn : b + n ≤ d.size) (hsz : d.size < 4611686018427387904) :
  Calls P 122 #[.slice (some ⟨blk, off, none⟩) d.size cap, a, b, n, cmp] w fun e w' =>
   e = .returned (.tuple #[]) ∧ ∃ m os, w' = SW enc w blk off m (swr d a b n) os := by
 have mixed := L.mixed; have tS := L.tS; have aS := L.aS; have zS := L.zS; have vS := L.vS; have t3 := L.t3; have a3 := L.a3; have z3 := L.z3; have v3 := L.v3; have t4 := L.t4; have a4 := L.a4; have z4 := L.z4; have v4 := L.v4; have tU := L.tU; have aU := L.aU; have zU := L.zU; have vU := L.vU
 have uS := run_underlying L.tS
 have eIns := L.eIns; have eSwr := L.eSwr; have eRot := L.eRot; have eSym := L.eSym; have eStb := L.eStb
 have HST : Hid (w = SW enc w blk off 0 d #[]) := by show w = _; unfold SW sortWorld; rw [grow_empty]; exact (putRow_self enc w blk off d hH).symm
 have HH : Hid (Holds enc w blk off d) := hH
 have HK : Hid (OneCell enc) := hk
 clear hH hk
 go_enter L.fSwr, Tryz.ntmps122
 go_wp2
 go_loopg [10] n (fun g vi wr => ∃ (i m : Nat) (os : Array Obj), vi = .int .i64 i ∧ i ≤ n ∧ n - i ≤ g ∧ wr = SW enc w blk off m (swr d a b i) os)
 case atStart => exact ⟨0, 0, #[], rfl, by omega, by omega, HST.out⟩
 case round =>
  obtain ⟨i, m, os, rfl, hi, hg, hwr⟩ := hrel
  by_cases hlt : i < n
  ·have hS : (swr d a b i).size = d.size := swr_size d a b i
   have HNX : Hid (swp (swr d a b i) (a + i) (b + i) = swr d a b (i + 1)) := rfl
   generalize swr d a b i = dk at *
   have HQ : Hid (wr = SW enc w blk off m dk os) := hwr
   clear hwr
   generalize wr = wq at *
   have x1 := IntWalk.i64_in ((a : Int) + (i : Int)) (by omega)
   have x2 := IntWalk.i64_in ((b : Int) + (i : Int)) (by omega)
   have y1 : ((a : Int) + (i : Int)).toNat = a + i := by omega
   have y2 : ((b : Int) + (i : Int)).toNat = b + i := by omega
   have z1 : (0 : Int) ≤ (a : Int) + (i : Int) := by omega
   have z2 : (0 : Int) ≤ (b : Int) + (i : Int) := by omega
   have z5 : (a : Int) + (i : Int) < (d.size : Int) := by omega
   have z6 : (b : Int) + (i : Int) < (d.size : Int) := by omega
   have S0 : Go.Proofs.SW enc w blk off dk wq := ⟨_, _, HQ.out⟩
   have R0 : Row1 enc w blk off d := ⟨HK.out, HH.out, hblk⟩
   have hcl0 := HK.out.cells
   simp only [Value.cells] at hcl0
   have hst := HK.out.store P
   obtain ⟨i1, hi1⟩ : ∃ i1, i1 = a + i := ⟨_, rfl⟩; obtain ⟨j1, hj1⟩ : ∃ j1, j1 = b + i := ⟨_, rfl⟩; rw [← hi1] at y1; rw [← hj1] at y2
   have hI : i1 < dk.size := by omega
   have hJ : j1 < dk.size := by omega
   have cI := S0.c1 R0 hS i1 hI
   have cJ := S0.c1 R0 hS j1 hJ
   have fI := S0.f1 R0 hS i1 hI
   have fJ := S0.f1 R0 hS j1 hJ
   obtain ⟨x1, hx1⟩ : ∃ x, x = dk[i1]! := ⟨_, rfl⟩
   obtain ⟨x2, hx2⟩ : ∃ x, x = dk[j1]! := ⟨_, rfl⟩
   obtain ⟨u2, cU⟩ := S0.c2 R0 hS i1 j1 hI hJ (enc x2)
   rw [← hx1] at cI
   rw [← hx2] at cJ
   have CC : Hid (x1 = dk[i1]! ∧ x2 = dk[j1]!) := ⟨hx1, hx2⟩
   have NI := hide hi1; have NJ := hide hj1; clear hi1 hj1
   clear S0 R0 hx1 hx2
   go_wp2_with fail
   go_big_region_o
   all_goals go_wp2
   go_roundg (n - (i + 1))
   case measure => omega
   case rel =>
    refine ⟨i + 1, m + 1, os, by go_num, by omega, Nat.le_refl _, ?_⟩
    rw [← HNX.out, ← NI.out, ← NJ.out, CC.out.1, CC.out.2, HQ.out]
    exact swp1_c enc w blk off m dk os hblk i1 j1 hI hJ
  ·have hltz : ¬ (i : Int) < (n : Int) := by omega
   obtain rfl : i = n := by omega
   go_wp2
   go_end0
   exact ⟨rfl, m, os, rfl⟩
set_option maxHeartbeats 4000000 in
set_option maxRecDepth 1000000 in
theorem rotate_any (cmp : Value) (blk off cap a m b : Nat) (d : Array β) (w : World) (hH : Holds enc w blk off d) (hblk : blk < w.heap.size) (ham : a < m) (hmb : m < b) (hb : b ≤ d.size) (hsz : d.size < 4611686018427387904) :
  Calls P 119 #[.slice (some ⟨blk, off, none⟩) d.size cap, a, m, b, cmp] w fun e w' =>
   e = .returned (.tuple #[]) ∧ ∃ q os r, w' = SW enc w blk off q r os ∧ PermIn a b d r ∧ ∀ x, r[x]! = rotV d a m b x := by
 have mixed := L.mixed; have tS := L.tS; have aS := L.aS; have zS := L.zS; have vS := L.vS; have t3 := L.t3; have a3 := L.a3; have z3 := L.z3; have v3 := L.v3; have t4 := L.t4; have a4 := L.a4; have z4 := L.z4; have v4 := L.v4; have tU := L.tU; have aU := L.aU; have zU := L.zU; have vU := L.vU
 have uS := run_underlying L.tS
 have eIns := L.eIns; have eSwr := L.eSwr; have eRot := L.eRot; have eSym := L.eSym; have eStb := L.eStb
 have HST : Hid (w = SW enc w blk off 0 d #[]) := by show w = _; unfold SW sortWorld; rw [grow_empty]; exact (putRow_self enc w blk off d hH).symm
 have HH : Hid (Holds enc w blk off d) := hH
 have HK : Hid (OneCell enc) := hk
 have hR0 : ∀ x, rotV d (m - (m - a)) m (m + (b - m)) x = rotV d a m b x := fun x => by rw [show m - (m - a) = a by omega, show m + (b - m) = b by omega]
 have HR0 := hide hR0
 clear hH hk hR0
 go_enter L.fRot, Tryz.ntmps119
 go_wp2
 go_loopg [10, 11] b (fun g vi vj wr => ∃ (i j q : Nat) (os : Array Obj) (dk : Array β), vi = .int .i64 i ∧ vj = .int .i64 j ∧ 0 < i ∧ 0 < j ∧ i ≤ m - a ∧ j ≤ b - m ∧ i + j ≤ g ∧ wr = SW enc w blk off q dk os ∧ PermIn a b d dk ∧ Hid (∀ x, rotV dk (m - i) m (m + j) x = rotV d a m b x))
 case atStart => exact ⟨m - a, b - m, 0, #[], d, by go_num, by go_num, by omega, by omega, by omega, by omega, by omega, HST.out, permIn_refl d a b, HR0.out⟩
 case round =>
  obtain ⟨i, j, q, os, dk, rfl, rfl, hi0, hj0, hi, hj, hg, hwr, hp, hR⟩ := hrel
  have hS : dk.size = d.size := hp.1
  have HP : Hid (PermIn a b d dk) := hp
  clear hp
  have HQ : Hid (wr = SW enc w blk off q dk os) := hwr
  clear hwr
  have hHd : Holds enc wr blk off dk := by rw [HQ.out]; exact holds_sw_c enc w blk off d dk _ _ HH.out hblk hS
  have hbw : blk < wr.heap.size := by rw [HQ.out]; exact Nat.lt_of_lt_of_le hblk (size_sw_c enc w blk off q dk os)
  have HHd := hide hHd
  clear hHd
  have again : ∀ (m' : Nat) (d' : Array β) (os' : Array Obj), d'.size = dk.size → SW enc wr blk off m' d' os' = SW enc w blk off (q + m') d' (os ++ os') := fun m' d' os' hs => by rw [HQ.out]; exact SW_again enc w blk off q m' dk d' os os' hblk hs
  have AG := hide again
  clear again
  rcases Nat.lt_trichotomy i j with hij | rfl | hij
  ·have C := swapRange_any L enc HK.out cmp blk off cap (m - i) (m + j - i) i dk wr HHd.out hbw (by omega) (by omega) (by omega)
   rw [show ((m - i : Nat) : Int) = (m : Int) - (i : Int) by omega, show ((m + j - i : Nat) : Int) = (m : Int) + (j : Int) - (i : Int) by omega, hS] at C
   have hne : ((i : Int) == (j : Int)) = false := by simp; omega
   go_wp2_with fail
   refine C.mono ?_
   rintro e w2 ⟨rfl, q2, os2, hw2⟩
   rw [AG.out _ _ _ (swr_size ..)] at hw2
   have HW2 := hide hw2
   clear hw2 C
   go_wp2
   go_roundg (i + (j - i))
   case measure => omega
   case rel => exact ⟨i, j - i, _, _, _, rfl, by go_num, hi0, by omega, hi, by omega, Nat.le_refl _, HW2.out, permIn_trans _ _ _ _ _ HP.out (swr_perm dk (m - i) (m + j - i) a b (by omega) (by omega) i (by omega) (by omega) (by omega)), fun x => by rw [rot_right dk hij (by omega) (by omega) x]; exact hR.out x⟩
  ·have C := swapRange_any L enc HK.out cmp blk off cap (m - i) m i dk wr HHd.out hbw (by omega) (by omega) (by omega)
   rw [show ((m - i : Nat) : Int) = (m : Int) - (i : Int) by omega, hS] at C
   go_wp2_with fail
   refine C.mono ?_
   rintro e w2 ⟨rfl, q2, os2, hw2⟩
   rw [AG.out _ _ _ (swr_size ..)] at hw2
   have HW2 := hide hw2
   clear hw2 C
   go_wp2
   go_end0
   exact ⟨rfl, _, _, _, HW2.out, permIn_trans _ _ _ _ _ HP.out (swr_perm dk (m - i) m a b (by omega) (by omega) i (by omega) (by omega) (by omega)), fun x => by rw [rot_same dk (by omega) (by omega) x]; exact hR.out x⟩
  ·have C := swapRange_any L enc HK.out cmp blk off cap (m - i) m j dk wr HHd.out hbw (by omega) (by omega) (by omega)
   rw [show ((m - i : Nat) : Int) = (m : Int) - (i : Int) by omega, hS] at C
   have hne : ((i : Int) == (j : Int)) = false := by simp; omega
   go_wp2_with fail
   refine C.mono ?_
   rintro e w2 ⟨rfl, q2, os2, hw2⟩
   rw [AG.out _ _ _ (swr_size ..)] at hw2
   have HW2 := hide hw2
   clear hw2 C
   go_wp2
   go_roundg (i - j + j)
   case measure => omega
   case rel => exact ⟨i - j, j, _, _, _, by go_num, rfl, by omega, hj0, by omega, hj, Nat.le_refl _, HW2.out, permIn_trans _ _ _ _ _ HP.out (swr_perm dk (m - i) m a b (by omega) (by omega) j (by omega) (by omega) (by omega)), fun x => by rw [rot_left dk hij (by omega) (by omega) x]; exact hR.out x⟩
set_option maxHeartbeats 4000000 in
set_option maxRecDepth 1000000 in
theorem symLeft_any (cf : β → β → Int) (g : Nat) (cb : Array Value) (blk off cap a m b : Nat) (d : Array β) (w : World)
  (eg : ∀ args w, (callFunc g args).run P w = .ok (.enter g args) w) (hcmp : Cmp P g cb enc cf blk off d.size w) (hH : Holds enc w blk off d) (hblk : blk < w.heap.size) (ham : m = a + 1) (hmb : m ≤ b) (hb : b ≤ d.size) (hsz : d.size < 4611686018427387904)
  (hmono : ∀ s t, m ≤ s → s ≤ t → t < b → cf d[t]! d[a]! < 0 → cf d[s]! d[a]! < 0) :
  Calls P 108 #[.slice (some ⟨blk, off, none⟩) d.size cap, a, m, b, .func (.func g) #[] cb] w fun e w' =>
   e = .returned (.tuple #[]) ∧ ∃ q os i, w' = SW enc w blk off q (fwd d a (i - 1 - a)) os ∧ m ≤ i ∧ i ≤ b ∧ (∀ t, m ≤ t → t < i → cf d[t]! d[a]! < 0) ∧ (∀ t, i ≤ t → t < b → 0 ≤ cf d[t]! d[a]!) := by
 have mixed := L.mixed; have tS := L.tS; have aS := L.aS; have zS := L.zS; have vS := L.vS; have t3 := L.t3; have a3 := L.a3; have z3 := L.z3; have v3 := L.v3; have t4 := L.t4; have a4 := L.a4; have z4 := L.z4; have v4 := L.v4; have tU := L.tU; have aU := L.aU; have zU := L.zU; have vU := L.vU
 have uS := run_underlying L.tS
 have eIns := L.eIns; have eSwr := L.eSwr; have eRot := L.eRot; have eSym := L.eSym; have eStb := L.eStb
 have HC : Aside _ := hcmp
 have HM := hide hmono
 have HST : Hid (w = SW enc w blk off 0 d #[]) := by show w = _; unfold SW sortWorld; rw [grow_empty]; exact (putRow_self enc w blk off d hH).symm
 have HH : Hid (Holds enc w blk off d) := hH
 have HK : Hid (OneCell enc) := hk
 clear hH hk hcmp hmono
 have hm1 : (((m : Int) - (a : Int)) == 1) = true := by simp; omega
 have HAM := hide ham
 have ham' : a < m := by omega
 clear ham
 go_enter L.fSym, Tryz.ntmps108
 go_wp2
 go_loopg [10, 11] (b - a) (fun g1 vi vj wr => ∃ (i j q : Nat) (os : Array Obj), vi = .int .i64 i ∧ vj = .int .i64 j ∧ m ≤ i ∧ i ≤ j ∧ j ≤ b ∧ j - i ≤ g1 ∧ wr = SW enc w blk off q d os ∧ Hid (∀ t, m ≤ t → t < i → cf d[t]! d[a]! < 0) ∧ Hid (∀ t, j ≤ t → t < b → 0 ≤ cf d[t]! d[a]!))
 case atStart => exact ⟨m, b, 0, #[], rfl, rfl, by omega, by omega, by omega, by omega, HST.out, hide fun t h h' => by omega, hide fun t h h' => by omega⟩
 case round =>
  obtain ⟨i, j, q, os, rfl, rfl, hi, hij, hj, hg1, hwr, HLO, HHI⟩ := hrel
  obtain ⟨dk, hdk⟩ : ∃ dk, dk = d := ⟨d, rfl⟩
  have hS : dk.size = d.size := by rw [hdk]
  have HQ : Hid (wr = SW enc w blk off q dk os) := by show _ = _; rw [hdk]; exact hwr
  have HD := hide hdk
  clear hwr hdk
  generalize wr = wq at *
  by_cases hlt : i < j
  ·obtain ⟨h, hh⟩ : ∃ h, h = (i + j) / 2 := ⟨_, rfl⟩
   have h2 : i ≤ h ∧ h < j := by omega
   have x1 : ((i : Int) + (j : Int)) / 2 = (h : Int) := by omega
   have HH2 := hide hh
   clear hh
   have z5 : (h : Int) < (d.size : Int) := by omega
   have z6 : (a : Int) < (d.size : Int) := by omega
   have S0 : Go.Proofs.SW enc w blk off dk wq := ⟨_, _, HQ.out⟩
   have R0 : Row1 enc w blk off d := ⟨HK.out, HH.out, hblk⟩
   have hcl0 := HK.out.cells
   simp only [Value.cells] at hcl0
   have hst := HK.out.store P
   have l1 := S0.cl R0 hS h (by omega)
   have l2 := S0.cl R0 hS a (by omega)
   have hcg := S0.cmp HC.out hS dk[h]! dk[a]!
   have CLS : Hid (∀ n' os', grow (wq.drewN n') os' = SW enc w blk off (q + n') dk (os ++ os')) := fun n' os' => by rw [HQ.out]; exact sortWorld_grown_c enc w blk off q n' dk os os'
   clear S0 R0
   by_cases hlv : cf dk[h]! dk[a]! < 0
   ·go_wp2_with fail
    go_quiet_grown (first | (go_at_fn g; refine Calls.grown_of (hcg _ _)))
    go_wp2
    have hlv' : cf d[h]! d[a]! < 0 := by rw [← HD.out]; exact hlv
    go_roundg (j - (h + 1))
    case measure => omega
    case rel => exact ⟨h + 1, j, q + nq, os ++ osq, by go_num, rfl, by omega, by omega, hj, Nat.le_refl _, by rw [CLS.out, HD.out], hide fun t h3 h4 => HM.out t h h3 (by omega) (by omega) hlv', HHI⟩
   ·go_wp2_with fail
    go_quiet_grown (first | (go_at_fn g; refine Calls.grown_of (hcg _ _)))
    go_wp2
    have hlv' : ¬ cf d[h]! d[a]! < 0 := by have e := hlv; rw [HD.out] at e; omega
    go_roundg (h - i)
    case measure => omega
    case rel => exact ⟨i, h, q + nq, os ++ osq, rfl, rfl, hi, by omega, by omega, Nat.le_refl _, by rw [CLS.out, HD.out], HLO, hide fun t h3 h4 => Int.not_lt.1 fun hc => hlv' (HM.out h t (by omega) h3 h4 hc)⟩
  ·obtain rfl : i = j := by omega
   go_wp2
   go_loopg [13] (i - 1 - a) (fun g2 vk wr2 => ∃ (n q : Nat) (os : Array Obj), vk = .int .i64 ((a + n : Nat) : Int) ∧ n ≤ i - 1 - a ∧ i - 1 - a - n ≤ g2 ∧ wr2 = SW enc w blk off q (fwd d a n) os)
   case atStart => exact ⟨0, q, os, by go_num, by omega, by omega, by rw [HQ.out, HD.out]; rfl⟩
   case round =>
    clear HQ HD hS
    obtain ⟨n, q2, os2, rfl, hn, hg2, hwr⟩ := hrel
    by_cases hlt2 : n < i - 1 - a
    ·have hS : (fwd d a n).size = d.size := fwd_size d a n
     have HNX : Hid (swp (fwd d a n) (a + n) (a + n + 1) = fwd d a (n + 1)) := rfl
     generalize fwd d a n = dk at *
     have HQ : Hid (wr = SW enc w blk off q2 dk os2) := hwr
     clear hwr
     generalize wr = wq at *
     generalize hp : a + n = p at *
     have x1 := IntWalk.i64_in ((p : Int) + 1) (by omega)
     have y1 : ((p : Int) + 1).toNat = p + 1 := by omega
     have z1 : (0 : Int) ≤ (p : Int) + 1 := by omega
     have z5 : (p : Int) + 1 < (d.size : Int) := by omega
     have z6 : (p : Int) < (d.size : Int) := by omega
     have S0 : Go.Proofs.SW enc w blk off dk wq := ⟨_, _, HQ.out⟩
     have R0 : Row1 enc w blk off d := ⟨HK.out, HH.out, hblk⟩
     have hcl0 := HK.out.cells
     simp only [Value.cells] at hcl0
     have hst := HK.out.store P
     obtain ⟨j1, hj1⟩ : ∃ j1, j1 = p + 1 := ⟨_, rfl⟩; rw [← hj1] at y1
     have hI : p < dk.size := by omega
     have hJ : j1 < dk.size := by omega
     have cI := S0.c1 R0 hS p hI
     have cJ := S0.c1 R0 hS j1 hJ
     have fI := S0.f1 R0 hS p hI
     have fJ := S0.f1 R0 hS j1 hJ
     obtain ⟨x1, hx1⟩ : ∃ x, x = dk[p]! := ⟨_, rfl⟩
     obtain ⟨x2, hx2⟩ : ∃ x, x = dk[j1]! := ⟨_, rfl⟩
     obtain ⟨u2, cU⟩ := S0.c2 R0 hS p j1 hI hJ (enc x2)
     rw [← hx1] at cI
     rw [← hx2] at cJ
     have CC : Hid (x1 = dk[p]! ∧ x2 = dk[j1]!) := ⟨hx1, hx2⟩
     have NJ := hide hj1; clear hj1
     clear S0 R0 hx1 hx2
     go_wp2_with fail
     go_big_region_o
     all_goals go_wp2
     go_roundg (i - 1 - a - (n + 1))
     case measure => omega
     case rel =>
      refine ⟨n + 1, q2 + 1, os2, by go_num, by omega, Nat.le_refl _, ?_⟩
      rw [← HNX.out, ← NJ.out, CC.out.1, CC.out.2, HQ.out]
      exact swp1_c enc w blk off q2 dk os2 hblk p j1 hI hJ
    ·obtain rfl : n = i - 1 - a := by omega
     rw [show ((a + (i - 1 - a) : Nat) : Int) = (i : Int) - 1 by omega]
     go_wp2
     exact bodyPost_ret (v := .tuple #[]) (results_none rfl _ _ _) rfl ⟨rfl, q2, os2, i, rfl, hi, hj, HLO.out, HHI.out⟩
set_option maxHeartbeats 4000000 in
set_option maxRecDepth 1000000 in
theorem symRight_any (cf : β → β → Int) (g : Nat) (cb : Array Value) (blk off cap a m b : Nat) (d : Array β) (w : World)
  (eg : ∀ args w, (callFunc g args).run P w = .ok (.enter g args) w) (hcmp : Cmp P g cb enc cf blk off d.size w) (hH : Holds enc w blk off d) (hblk : blk < w.heap.size) (ham : a + 1 < m) (hmb : b = m + 1) (hb : b ≤ d.size) (hsz : d.size < 4611686018427387904)
  (hmono : ∀ s t, a ≤ s → s ≤ t → t < m → cf d[m]! d[s]! < 0 → cf d[m]! d[t]! < 0) :
  Calls P 108 #[.slice (some ⟨blk, off, none⟩) d.size cap, a, m, b, .func (.func g) #[] cb] w fun e w' =>
   e = .returned (.tuple #[]) ∧ ∃ q os i, w' = SW enc w blk off q (bwd d m (m - i)) os ∧ a ≤ i ∧ i ≤ m ∧ (∀ t, a ≤ t → t < i → 0 ≤ cf d[m]! d[t]!) ∧ (∀ t, i ≤ t → t < m → cf d[m]! d[t]! < 0) := by
 have mixed := L.mixed; have tS := L.tS; have aS := L.aS; have zS := L.zS; have vS := L.vS; have t3 := L.t3; have a3 := L.a3; have z3 := L.z3; have v3 := L.v3; have t4 := L.t4; have a4 := L.a4; have z4 := L.z4; have v4 := L.v4; have tU := L.tU; have aU := L.aU; have zU := L.zU; have vU := L.vU
 have uS := run_underlying L.tS
 have eIns := L.eIns; have eSwr := L.eSwr; have eRot := L.eRot; have eSym := L.eSym; have eStb := L.eStb
 have HC : Aside _ := hcmp
 have HM := hide hmono
 have HST : Hid (w = SW enc w blk off 0 d #[]) := by show w = _; unfold SW sortWorld; rw [grow_empty]; exact (putRow_self enc w blk off d hH).symm
 have HH : Hid (Holds enc w blk off d) := hH
 have HK : Hid (OneCell enc) := hk
 clear hH hk hcmp hmono
 have hm1 : (((m : Int) - (a : Int)) == 1) = false := by simp; omega
 have hm2 : (((b : Int) - (m : Int)) == 1) = true := by simp; omega
 have hmb' : m < b := by omega
 have HMB := hide hmb
 clear hmb
 go_enter L.fSym, Tryz.ntmps108
 go_wp2
 go_loopg [14, 15] (b - a) (fun g1 vi vj wr => ∃ (i j q : Nat) (os : Array Obj), vi = .int .i64 i ∧ vj = .int .i64 j ∧ a ≤ i ∧ i ≤ j ∧ j ≤ m ∧ j - i ≤ g1 ∧ wr = SW enc w blk off q d os ∧ Hid (∀ t, a ≤ t → t < i → 0 ≤ cf d[m]! d[t]!) ∧ Hid (∀ t, j ≤ t → t < m → cf d[m]! d[t]! < 0))
 case atStart => exact ⟨a, m, 0, #[], rfl, rfl, by omega, by omega, by omega, by omega, HST.out, hide fun t h h' => by omega, hide fun t h h' => by omega⟩
 case round =>
  obtain ⟨i, j, q, os, rfl, rfl, hi, hij, hj, hg1, hwr, HLO, HHI⟩ := hrel
  obtain ⟨dk, hdk⟩ : ∃ dk, dk = d := ⟨d, rfl⟩
  have hS : dk.size = d.size := by rw [hdk]
  have HQ : Hid (wr = SW enc w blk off q dk os) := by show _ = _; rw [hdk]; exact hwr
  have HD := hide hdk
  clear hwr hdk
  generalize wr = wq at *
  by_cases hlt : i < j
  ·obtain ⟨h, hh⟩ : ∃ h, h = (i + j) / 2 := ⟨_, rfl⟩
   have h2 : i ≤ h ∧ h < j := by omega
   have x1 : ((i : Int) + (j : Int)) / 2 = (h : Int) := by omega
   have HH2 := hide hh
   clear hh
   have z5 : (h : Int) < (d.size : Int) := by omega
   have z6 : (m : Int) < (d.size : Int) := by omega
   have S0 : Go.Proofs.SW enc w blk off dk wq := ⟨_, _, HQ.out⟩
   have R0 : Row1 enc w blk off d := ⟨HK.out, HH.out, hblk⟩
   have hcl0 := HK.out.cells
   simp only [Value.cells] at hcl0
   have hst := HK.out.store P
   have l1 := S0.cl R0 hS m (by omega)
   have l2 := S0.cl R0 hS h (by omega)
   have hcg := S0.cmp HC.out hS dk[m]! dk[h]!
   have CLS : Hid (∀ n' os', grow (wq.drewN n') os' = SW enc w blk off (q + n') dk (os ++ os')) := fun n' os' => by rw [HQ.out]; exact sortWorld_grown_c enc w blk off q n' dk os os'
   clear S0 R0
   by_cases hlv : cf dk[m]! dk[h]! < 0
   ·have hb1 : decide (0 ≤ cf dk[m]! dk[h]!) = false := by simp; omega
    have hb2 : decide (cf dk[m]! dk[h]! < 0) = true := by simp; omega
    go_wp2_with fail
    go_quiet_grown (first | (go_at_fn g; refine Calls.grown_of (hcg _ _)))
    go_wp2
    have hlv' : cf d[m]! d[h]! < 0 := by rw [← HD.out]; exact hlv
    go_roundg (h - i)
    case measure => omega
    case rel => exact ⟨i, h, q + nq, os ++ osq, rfl, rfl, hi, by omega, by omega, Nat.le_refl _, by rw [CLS.out, HD.out], HLO, hide fun t h3 h4 => HM.out h t (by omega) h3 h4 hlv'⟩
   ·have hb1 : decide (0 ≤ cf dk[m]! dk[h]!) = true := by simp; omega
    have hb2 : decide (cf dk[m]! dk[h]! < 0) = false := by simp; omega
    go_wp2_with fail
    go_quiet_grown (first | (go_at_fn g; refine Calls.grown_of (hcg _ _)))
    go_wp2
    have hlv' : ¬ cf d[m]! d[h]! < 0 := by have e := hlv; rw [HD.out] at e; omega
    go_roundg (j - (h + 1))
    case measure => omega
    case rel => exact ⟨h + 1, j, q + nq, os ++ osq, by go_num, rfl, by omega, by omega, hj, Nat.le_refl _, by rw [CLS.out, HD.out], hide fun t h3 h4 => Int.not_lt.1 fun hc => hlv' (HM.out t h h3 (by omega) (by omega) hc), HHI⟩
  ·obtain rfl : i = j := by omega
   go_wp2
   go_loopg [17] (m - i) (fun g2 vk wr2 => ∃ (c q : Nat) (os : Array Obj), vk = .int .i64 c ∧ i ≤ c ∧ c ≤ m ∧ c - i ≤ g2 ∧ wr2 = SW enc w blk off q (bwd d m (m - c)) os)
   case atStart => exact ⟨m, q, os, rfl, by omega, by omega, by omega, by rw [HQ.out, HD.out, Nat.sub_self]; rfl⟩
   case round =>
    clear HQ HD hS
    obtain ⟨c, q2, os2, rfl, hc1, hc2, hg2, hwr⟩ := hrel
    by_cases hlt2 : i < c
    ·obtain ⟨p, rfl⟩ : ∃ p, c = p + 1 := ⟨c - 1, by omega⟩
     have hS : (bwd d m (m - (p + 1))).size = d.size := bwd_size d m _
     have HNX : Hid (swp (bwd d m (m - (p + 1))) (p + 1) p = bwd d m (m - p)) := bwd_step d hc2
     generalize bwd d m (m - (p + 1)) = dk at *
     have HQ : Hid (wr = SW enc w blk off q2 dk os2) := hwr
     clear hwr
     generalize wr = wq at *
     have x1 : IntKind.i64.wrap (p : Int) = (p : Int) := IntWalk.i64_in _ (by omega)
     have y1 : ((p : Int) + 1).toNat = p + 1 := by omega
     have z1 : (0 : Int) ≤ (p : Int) + 1 := by omega
     have z5 : (p : Int) + 1 < (d.size : Int) := by omega
     have z6 : (p : Int) < (d.size : Int) := by omega
     have S0 : Go.Proofs.SW enc w blk off dk wq := ⟨_, _, HQ.out⟩
     have R0 : Row1 enc w blk off d := ⟨HK.out, HH.out, hblk⟩
     have hcl0 := HK.out.cells
     simp only [Value.cells] at hcl0
     have hst := HK.out.store P
     obtain ⟨i1, hi1⟩ : ∃ i1, i1 = p + 1 := ⟨_, rfl⟩; rw [← hi1] at y1
     have hI : i1 < dk.size := by omega
     have hJ : p < dk.size := by omega
     have cI := S0.c1 R0 hS i1 hI
     have cJ := S0.c1 R0 hS p hJ
     have fI := S0.f1 R0 hS i1 hI
     have fJ := S0.f1 R0 hS p hJ
     obtain ⟨x1, hx1⟩ : ∃ x, x = dk[i1]! := ⟨_, rfl⟩
     obtain ⟨x2, hx2⟩ : ∃ x, x = dk[p]! := ⟨_, rfl⟩
     obtain ⟨u2, cU⟩ := S0.c2 R0 hS i1 p hI hJ (enc x2)
     rw [← hx1] at cI
     rw [← hx2] at cJ
     have CC : Hid (x1 = dk[i1]! ∧ x2 = dk[p]!) := ⟨hx1, hx2⟩
     have NI := hide hi1; clear hi1
     clear S0 R0 hx1 hx2
     go_wp2_with fail
     go_big_region_o
     all_goals go_wp2
     go_roundg (p - i)
     case measure => omega
     case rel =>
      refine ⟨p, q2 + 1, os2, by go_num, by omega, by omega, Nat.le_refl _, ?_⟩
      rw [← HNX.out, ← NI.out, CC.out.1, CC.out.2, HQ.out]
      exact swp1_c enc w blk off q2 dk os2 hblk i1 p hI hJ
    ·obtain rfl : c = i := by omega
     go_wp2
     exact bodyPost_ret (v := .tuple #[]) (results_none rfl _ _ _) rfl ⟨rfl, q2, os2, c, rfl, hi, hj, HLO.out, HHI.out⟩
end
end StabInt
end Go.Proofs.YtehlbomkldnalaaGreat

/- The library's stable sort of int: merging, and the whole. -/
namespace Go.Proofs.YtehlbomkldnalaaGreat
open Go Go.Sort Go.RowKit Go.Lib Go.Shelf Go.Proofs
namespace StabInt
variable {P : Program}
section
variable {β : Type} [Inhabited β] {enc : β → Value} {w : World} {blk off : Nat} {d : Array β}
theorem SW_holds (hH : Holds enc w blk off d) (hblk : blk < w.heap.size) (q : Nat) (r : Array β) (os : Array Obj) (hs : r.size = d.size) : Holds enc (SW enc w blk off q r os) blk off r :=
 holds_sw_c enc w blk off d r q os hH hblk hs
theorem SW_lt (hblk : blk < w.heap.size) (q : Nat) (r : Array β) (os : Array Obj) : blk < (SW enc w blk off q r os).heap.size :=
 Nat.lt_of_lt_of_le hblk (size_sw_c enc w blk off q r os)
theorem SW_start (hH : Holds enc w blk off d) : w = SW enc w blk off 0 d #[] := by unfold SW sortWorld; rw [grow_empty]; exact (putRow_self enc w blk off d hH).symm
theorem cmp_again {g : Nat} {cb : Array Value} {cf : β → β → Int} {size : Nat} (h : Cmp P g cb enc cf blk off size w) (hblk : blk < w.heap.size) (q : Nat) (r : Array β) (os : Array Obj) (hs : r.size = size) :
  Cmp P g cb enc cf blk off size (SW enc w blk off q r os) := by
 intro m os' dk hd x y
 have e : sortWorld enc (SW enc w blk off q r os) blk off m dk os' = sortWorld enc w blk off (q + m) dk (os ++ os') := SW_again enc w blk off q m r dk os os' hblk (by omega)
 rw [e]
 exact h (q + m) (os ++ os') dk hd x y
end
section
variable {α : Type} [Inhabited α] (L : Lay P) (enc0 : α → Value) (hk : OneCell enc0) (cf0 : α → α → Int)
/-- elements with their tags -/
def encT (enc0 : α → Value) (x : α × Nat) : Value := enc0 x.1
def cfT (cf0 : α → α → Int) (x y : α × Nat) : Int := cf0 x.1 y.1
def ltF (cf0 : α → α → Int) (x y : α) : Bool := decide (cf0 x y < 0)
theorem ltT_true {α : Type} {cf0 : α → α → Int} {x y : α × Nat} : ltT (ltF cf0) x y = true ↔ cfT cf0 x y < 0 := by simp [ltT, ltF, cfT]
theorem ltT_false {α : Type} {cf0 : α → α → Int} {x y : α × Nat} : ltT (ltF cf0) x y = false ↔ 0 ≤ cfT cf0 x y := by simp [ltT, ltF, cfT]
theorem Parts.out {lt : α → α → Bool} {a m b : Nat} {d r : Array (α × Nat)} (h : Parts lt a m b d) (hr : ∀ x, a ≤ x → r[x]! = d[x]!) (hs : r.size = d.size) : Parts lt a m b r := by
 have h1 := h.am
 have h2 := h.mb
 refine ⟨fun i j h3 h4 h5 => ?_, fun i j h3 h4 h5 => ?_, fun i j h3 h4 h5 h6 => ?_, h1, h2, by have := h.size; omega⟩
 ·rw [hr _ h3, hr _ (by omega)]; exact h.left i j h3 h4 h5
 ·rw [hr _ (by omega), hr _ (by omega)]; exact h.right i j h3 h4 h5
 ·rw [hr _ h3, hr _ (by omega)]; exact h.tags i j h3 h4 h5 h6
/-- one of the two parts is empty -/
theorem Parts.whole {lt : α → α → Bool} {a m b : Nat} {d : Array (α × Nat)} (h : Parts lt a m b d) (he : ¬ (a < m ∧ m < b)) : TS lt a b d := by
 have h1 := h.am
 have h2 := h.mb
 by_cases h3 : a = m
 ·rw [h3]; exact h.right
 ·have : m = b := by omega
  rw [← this]; exact h.left
-- behind the rotation: world wq = SW .. q1 r1 os1 (HQ), HPM, HP1, HP2, HCR
/-- what a sort of the places from a to b leaves -/
def Sorted_ (lt : α → α → Bool) (enc : α × Nat → Value) (w : World) (blk off a b : Nat) (d : Array (α × Nat)) (e : Ending) (w' : World) : Prop :=
 e = .returned (.tuple #[]) ∧ ∃ q r os, w' = SW enc w blk off q r os ∧ PermIn a b d r ∧ TS lt a b r
include L hk
set_option maxHeartbeats 8000000 in
set_option maxRecDepth 1000000 in
theorem symMerge_any (hS : SWO (ltF cf0)) (g : Nat) (cb : Array Value) (blk off cap : Nat) (eg : ∀ args w, (callFunc g args).run P w = .ok (.enter g args) w) :
  ∀ (n a m b : Nat) (d : Array (α × Nat)) (w : World), b - a ≤ n → Cmp P g cb (encT enc0) (cfT cf0) blk off d.size w → Holds (encT enc0) w blk off d → blk < w.heap.size → a < m → m < b → b ≤ d.size → d.size < 4611686018427387904 → Parts (ltF cf0) a m b d →
  Calls P 108 #[.slice (some ⟨blk, off, none⟩) d.size cap, a, m, b, .func (.func g) #[] cb] w (Sorted_ (ltF cf0) (encT enc0) w blk off a b d) := by
 intro n
 induction n with
 | zero => intro a m b d w hn _ _ _ h1 h2; omega
 | succ n IH =>
  intro a m b d w hn hcmp hH hblk ham hmb hb hsz hP
  by_cases hA : m = a + 1
  ·refine (symLeft_any L (encT enc0) (fun x => hk x.1) (cfT cf0) g cb blk off cap a m b d w eg hcmp hH hblk hA (by omega) hb hsz ?_).mono ?_
   ·intro s t h2 h3 h4 h5
    rcases Int.lt_or_le (cfT cf0 d[s]! d[a]!) 0 with h | h
    ·exact h
    ·exfalso
     have e1 := (hP.cross hS (i := a) (j := s) (Nat.le_refl _) (by omega) h2 (by omega)).1 (ltT_false.2 h)
     have e2 := TL.then_le hS e1 (at_eq (hP.right.le h2 h3 h4))
     have e3 := ltT_false.1 (TL.early_iff hS e2)
     omega
   ·rintro e w' ⟨rfl, q, os, i, rfl, hi1, hi2, hlo, hhi⟩
    exact ⟨rfl, q, _, os, rfl, fwd_perm d a b hb _ (by omega), one_left hS hP hA hi1 hi2 (fun t h3 h4 => ltT_true.2 (hlo t h3 h4)) (fun t h3 h4 => ltT_false.2 (hhi t h3 h4))⟩
  by_cases hBB : b = m + 1
  ·refine (symRight_any L (encT enc0) (fun x => hk x.1) (cfT cf0) g cb blk off cap a m b d w eg hcmp hH hblk (by omega) hBB hb hsz ?_).mono ?_
   ·intro s t h2 h3 h4 h5
    rcases Int.lt_or_le (cfT cf0 d[m]! d[t]!) 0 with h | h
    ·exact h
    ·exfalso
     have e1 := (hP.cross hS (i := t) (j := m) (by omega) h4 (Nat.le_refl _) (by omega)).1 (ltT_false.2 h)
     have e2 := TL.le_then hS (at_eq (hP.left.le h2 h3 h4)) e1
     have e3 := ltT_false.1 (TL.early_iff hS e2)
     omega
   ·rintro e w' ⟨rfl, q, os, i, rfl, hi1, hi2, hlo, hhi⟩
    exact ⟨rfl, q, _, os, rfl, bwd_perm d a b m hb (by omega) _ (by omega), one_right hS hP hBB hi1 hi2 (fun t h3 h4 => ltT_false.2 (hlo t h3 h4)) (fun t h3 h4 => ltT_true.2 (hhi t h3 h4))⟩
  obtain ⟨mid, hmid⟩ : ∃ mid, mid = (a + b) / 2 := ⟨_, rfl⟩
  obtain ⟨s0, hs0⟩ : ∃ s0, s0 = if mid < m then mid + m - b else a := ⟨_, rfl⟩
  obtain ⟨r0, hr0⟩ : ∃ r0, r0 = if mid < m then mid else m := ⟨_, rfl⟩
  have hb0 : a ≤ s0 ∧ s0 ≤ r0 ∧ r0 ≤ m ∧ r0 ≤ mid ∧ mid + m ≤ s0 + b ∧ a < mid ∧ mid < b := by split at hs0 <;> split at hr0 <;> omega
  have x0 : ((a : Int) + (b : Int)) / 2 = (mid : Int) := by omega
  have HMID := hide hmid
  have HS0 := hide hs0
  have HR0 := hide hr0
  have HP := hide hP
  have HSW := hide hS
  have HC : Aside _ := hcmp
  have HH : Hid (Holds (encT enc0) w blk off d) := hH
  have HST : Hid (w = SW (encT enc0) w blk off 0 d #[]) := SW_start hH
  obtain ⟨enc, henc⟩ : ∃ enc, enc = encT enc0 := ⟨_, rfl⟩
  rw [← henc] at HC HH HST ⊢
  obtain ⟨cf, hcf⟩ : ∃ cf, cf = cfT cf0 := ⟨_, rfl⟩
  rw [← hcf] at HC
  rw [← henc, ← hcf] at IH
  have HIH := hide IH
  have HK : Hid (OneCell enc) := by show OneCell enc; rw [henc]; exact fun x => hk x.1
  have HENC := hide henc
  have HCF := hide hcf
  have hm1 : (((m : Int) - (a : Int)) == 1) = false := by simp; omega
  have hm2 : (((b : Int) - (m : Int)) == 1) = false := by simp; omega
  clear hmid hs0 hr0 hP hS IH hcmp hH henc hcf
  have mixed := L.mixed; have tS := L.tS; have aS := L.aS; have zS := L.zS; have vS := L.vS; have t3 := L.t3; have a3 := L.a3; have z3 := L.z3; have v3 := L.v3; have t4 := L.t4; have a4 := L.a4; have z4 := L.z4; have v4 := L.v4; have tU := L.tU; have aU := L.aU; have zU := L.zU; have vU := L.vU
  have uS := run_underlying L.tS
  have eIns := L.eIns; have eSwr := L.eSwr; have eRot := L.eRot; have eSym := L.eSym; have eStb := L.eStb
  clear hk
  by_cases hmm : mid < m
  all_goals
   have hs0 : (s0 : Int) = if mid < m then (mid : Int) + (m : Int) - (b : Int) else (a : Int) := by rw [HS0.out]; split <;> omega
   have hr0 : (r0 : Int) = if mid < m then (mid : Int) else (m : Int) := by rw [HR0.out]; split <;> omega
   first | rw [if_pos hmm] at hs0 hr0 | rw [if_neg hmm] at hs0 hr0
   have HS0i := hide hs0
   have HR0i := hide hr0
   clear hs0 hr0
   go_enter L.fSym, Tryz.ntmps108
   go_wp2
   go_loopg [20, 21] (b - a) (fun g1 vi vj wr => ∃ (i j q : Nat) (os : Array Obj), vi = .int .i64 i ∧ vj = .int .i64 j ∧ s0 ≤ i ∧ i ≤ j ∧ j ≤ r0 ∧ j - i ≤ g1 ∧ wr = SW enc w blk off q d os ∧ Hid (∀ c, s0 ≤ c → c < i → ltT (ltF cf0) d[mid + m - 1 - c]! d[c]! = false) ∧ Hid (∀ c, j ≤ c → c < r0 → ltT (ltF cf0) d[mid + m - 1 - c]! d[c]! = true))
   case atStart => exact ⟨s0, r0, 0, #[], by have := HS0i.out; go_num, by have := HR0i.out; go_num, by omega, by omega, by omega, by omega, HST.out, hide fun t h h' => by omega, hide fun t h h' => by omega⟩
   case round =>
    obtain ⟨i, j, q, os, rfl, rfl, hi, hij, hj, hg1, hwr, HLO, HHI⟩ := hrel
    obtain ⟨dk, hdk⟩ : ∃ dk, dk = d := ⟨d, rfl⟩
    have hS : dk.size = d.size := by rw [hdk]
    have HQ : Hid (wr = SW enc w blk off q dk os) := by show _ = _; rw [hdk]; exact hwr
    have HD := hide hdk
    clear hwr hdk
    generalize wr = wq at *
    by_cases hlt : i < j
    ·obtain ⟨h, hh⟩ : ∃ h, h = (i + j) / 2 := ⟨_, rfl⟩
     have h2 : i ≤ h ∧ h < j := by omega
     have y1 : ((i : Int) + (j : Int)) / 2 = (h : Int) := by omega
     have HH2 := hide hh
     clear hh
     obtain ⟨u, hu⟩ : ∃ u, u = mid + m - 1 - h := ⟨_, rfl⟩
     have hu2 : u + h + 1 = mid + m ∧ m ≤ u ∧ u < b := by
      have := HS0.out; have := HR0.out
      split at * <;> omega
     have HU := hide hu
     clear hu
     have z3 : IntKind.i64.wrap ((mid : Int) + (m : Int) - 1 - (h : Int)) = (u : Int) := by rw [IntWalk.i64_in _ (by omega)]; omega
     have z5 : (h : Int) < (d.size : Int) := by omega
     have z6 : (u : Int) < (d.size : Int) := by omega
     have S0 : Go.Proofs.SW enc w blk off dk wq := ⟨_, _, HQ.out⟩
     have R0 : Row1 enc w blk off d := ⟨HK.out, HH.out, hblk⟩
     have hcl0 := HK.out.cells
     simp only [Value.cells] at hcl0
     have hst := HK.out.store P
     have l1 := S0.cl R0 hS u (by omega)
     have l2 := S0.cl R0 hS h (by omega)
     have hcg := S0.cmp HC.out hS dk[u]! dk[h]!
     have CLS : Hid (∀ n' os', grow (wq.drewN n') os' = SW enc w blk off (q + n') dk (os ++ os')) := fun n' os' => by rw [HQ.out]; exact sortWorld_grown_c enc w blk off q n' dk os os'
     clear S0 R0
     by_cases hlv : cf dk[u]! dk[h]! < 0
     ·have hb1 : decide (0 ≤ cf dk[u]! dk[h]!) = false := by simp; omega
      have hb2 : decide (cf dk[u]! dk[h]! < 0) = true := by simp; omega
      go_wp2_with fail
      go_quiet_grown (first | (go_at_fn g; refine Calls.grown_of (hcg _ _)))
      go_wp2
      have hlv' : ltT (ltF cf0) d[u]! d[h]! = true := by rw [ltT_true, ← HCF.out, ← HD.out]; exact hlv
      go_roundg (h - i)
      case measure => omega
      case rel => exact ⟨i, h, q + nq, os ++ osq, rfl, rfl, hi, by omega, by omega, Nat.le_refl _, by rw [CLS.out, HD.out], HLO, hide fun c h3 h4 => probe_mono HSW.out HP.out (n := mid + m) (by omega) h3 (by omega) (by have := HS0.out; have := HR0.out; split at * <;> omega) (by omega) (by omega) (by rw [← HU.out]; exact hlv')⟩
     ·have hb1 : decide (0 ≤ cf dk[u]! dk[h]!) = true := by simp; omega
      have hb2 : decide (cf dk[u]! dk[h]! < 0) = false := by simp; omega
      go_wp2_with fail
      go_quiet_grown (first | (go_at_fn g; refine Calls.grown_of (hcg _ _)))
      go_wp2
      have hlv' : ltT (ltF cf0) d[u]! d[h]! = false := by rw [ltT_false, ← HCF.out, ← HD.out]; omega
      go_roundg (j - (h + 1))
      case measure => omega
      case rel => exact ⟨h + 1, j, q + nq, os ++ osq, by go_num, rfl, by omega, by omega, hj, Nat.le_refl _, by rw [CLS.out, HD.out], hide fun c h3 h4 => (by
       cases hc : ltT (ltF cf0) d[mid + m - 1 - c]! d[c]!
       ·rfl
       ·exfalso
        have := probe_mono HSW.out HP.out (n := mid + m) (c' := c) (c := h) (by omega) (by omega) (by omega) (by omega) (by have := HS0.out; have := HR0.out; split at * <;> omega) (by omega) hc
        rw [← HU.out, hlv'] at this; cases this), HHI⟩
    ·obtain rfl : i = j := by omega
     obtain ⟨en, hen⟩ : ∃ en, en = mid + m - i := ⟨_, rfl⟩
     have hen2 : en + i = mid + m ∧ m ≤ en ∧ en ≤ b ∧ mid ≤ en := by
      have := HS0.out; have := HR0.out
      split at * <;> omega
     have w1 : (mid : Int) + (m : Int) - (i : Int) = (en : Int) := by omega
     have HSPL := hide (fun (r : Array (α × Nat)) (hr : ∀ x, r[x]! = rotV d i m en x) (hrs : r.size = d.size) => split_parts HSW.out HP.out HMID.out HS0.out HR0.out hi hj (fun h3 => by have h4 := HLO.out (i - 1) (by omega) (by omega); rwa [show mid + m - 1 - (i - 1) = mid + m - i by omega] at h4) (fun h3 => by have h4 := HHI.out i (Nat.le_refl _) h3; rwa [show mid + m - 1 - i = mid + m - i - 1 by omega] at h4) (by rw [← hen]; exact hr) hrs)
     rw [← hen] at HSPL
     clear hen
     by_cases hrot : i < m ∧ m < en
     ·have C := rotate_any L enc HK.out (.func (.func g) #[] cb) blk off cap i m en dk wq (by rw [HQ.out]; exact SW_holds HH.out hblk q dk os hS) (by rw [HQ.out]; exact SW_lt hblk q dk os) hrot.1 hrot.2 (by omega) (by omega)
      rw [hS] at C
      go_wp2_with fail
      refine C.mono ?_
      rintro e w2 ⟨rfl, q1, os1, r1, hw2, hp1, hv1⟩
      rw [HQ.out, SW_again enc w blk off q q1 dk r1 os os1 hblk hp1.1] at hw2
      rw [HD.out] at hp1 hv1
      obtain ⟨p1, p2, p3⟩ := HSPL.out r1 hv1 hp1.1
      have HP1 := hide p1
      have HP2 := hide p2
      have HCR := hide p3
      have HPM := hide (permIn_mono d r1 i en a b (by omega) (by omega) hb hp1)
      generalize q + q1 = q1 at hw2
      generalize os ++ os1 = os1 at hw2
      clear HQ hp1 hv1 p1 p2 p3 C HD hS HSPL
      have HQ := hide hw2
      clear hw2
      generalize w2 = wq at *
      have hS1 : r1.size = d.size := HPM.out.1
      by_cases hc1 : a < i ∧ i < mid
      ·have C := HIH.out a i mid r1 wq (by omega) (by rw [hS1, HQ.out]; exact cmp_again HC.out hblk q1 r1 os1 hS1) (by rw [HQ.out]; exact SW_holds HH.out hblk q1 r1 os1 hS1) (by rw [HQ.out]; exact SW_lt hblk q1 r1 os1) hc1.1 hc1.2 (by omega) (by omega) HP1.out
       rw [hS1] at C
       go_wp2_with fail
       all_goals
        refine C.mono ?_
        rintro e w3 ⟨rfl, q3, r3, os3, hw3, hp3, ht3⟩
        rw [HQ.out, SW_again enc w blk off q1 q3 r1 r3 os1 os3 hblk hp3.1] at hw3
        have HP3 := hide hp3
        have HT3 := hide ht3
        generalize q1 + q3 = q3 at hw3
        generalize os1 ++ os3 = os3 at hw3
        clear HQ
        have HQ := hide hw3
        clear hw3 hp3 ht3 C
        generalize w3 = wq at *
        have hS3 : r3.size = d.size := HP3.out.1.trans hS1
        have HP2' := hide (Parts.out HP2.out (fun x hx => HP3.out.2.1 x (.inr hx)) HP3.out.1)
        by_cases hc2 : mid < en ∧ en < b
        ·have C := HIH.out mid en b r3 wq (by omega) (by rw [hS3, HQ.out]; exact cmp_again HC.out hblk q3 r3 os3 hS3) (by rw [HQ.out]; exact SW_holds HH.out hblk q3 r3 os3 hS3) (by rw [HQ.out]; exact SW_lt hblk q3 r3 os3) hc2.1 hc2.2 (by omega) (by omega) HP2'.out
         rw [hS3] at C
         go_wp2_with fail
         all_goals
          refine C.mono ?_
          rintro e w4 ⟨rfl, q4, r4, os4, hw4, hp4, ht4⟩
          rw [HQ.out, SW_again enc w blk off q3 q4 r3 r4 os3 os4 hblk hp4.1] at hw4
          have HW4 := hide hw4
          have HP4 := hide hp4
          have HT4 := hide ht4
          clear hw4 hp4 ht4 C
          go_wp2
          all_goals
           go_end0
           obtain ⟨j1, j2⟩ := join_sorted (lt := ltF cf0) (by omega) (by omega) (by omega) HCR.out HP3.out HT3.out HP4.out HT4.out
           exact ⟨rfl, _, r4, _, HW4.out, permIn_trans _ _ _ _ _ HPM.out j2, j1⟩
        ·have hc2' : ¬ ((mid : Int) < (en : Int)) ∨ ¬ ((en : Int) < (b : Int)) := by omega
         rcases hc2' with hc2' | hc2'
         all_goals
          go_wp2
          all_goals
           go_end0
           obtain ⟨j1, j2⟩ := join_sorted (lt := ltF cf0) (by omega) (by omega) (by omega) HCR.out HP3.out HT3.out (permIn_refl r3 mid b) (Parts.whole HP2'.out (by omega))
           exact ⟨rfl, _, r3, _, HQ.out, permIn_trans _ _ _ _ _ HPM.out j2, j1⟩
      ·have hc1' : ¬ ((a : Int) < (i : Int)) ∨ ¬ ((i : Int) < (mid : Int)) := by omega
       obtain ⟨r3, hr3⟩ : ∃ r3, r3 = r1 := ⟨_, rfl⟩
       obtain ⟨q3, hq3⟩ : ∃ q3, q3 = q1 := ⟨_, rfl⟩
       obtain ⟨os3, ho3⟩ : ∃ os3, os3 = os1 := ⟨_, rfl⟩
       have HP3 : Hid (PermIn a mid r1 r3) := by show PermIn a mid r1 r3; rw [hr3]; exact permIn_refl r1 a mid
       have HT3 : Hid (TS (ltF cf0) a mid r3) := by show TS (ltF cf0) a mid r3; rw [hr3]; exact Parts.whole HP1.out (by omega)
       have HQ0 := HQ
       clear HQ
       have HQ : Hid (wq = SW enc w blk off q3 r3 os3) := by show _ = _; rw [hr3, hq3, ho3]; exact HQ0.out
       clear hr3 hq3 ho3
       rcases hc1' with hc1' | hc1'
       all_goals
        have hS3 : r3.size = d.size := HP3.out.1.trans hS1
        have HP2' := hide (Parts.out HP2.out (fun x hx => HP3.out.2.1 x (.inr hx)) HP3.out.1)
        by_cases hc2 : mid < en ∧ en < b
        ·have C := HIH.out mid en b r3 wq (by omega) (by rw [hS3, HQ.out]; exact cmp_again HC.out hblk q3 r3 os3 hS3) (by rw [HQ.out]; exact SW_holds HH.out hblk q3 r3 os3 hS3) (by rw [HQ.out]; exact SW_lt hblk q3 r3 os3) hc2.1 hc2.2 (by omega) (by omega) HP2'.out
         rw [hS3] at C
         go_wp2_with fail
         all_goals
          refine C.mono ?_
          rintro e w4 ⟨rfl, q4, r4, os4, hw4, hp4, ht4⟩
          rw [HQ.out, SW_again enc w blk off q3 q4 r3 r4 os3 os4 hblk hp4.1] at hw4
          have HW4 := hide hw4
          have HP4 := hide hp4
          have HT4 := hide ht4
          clear hw4 hp4 ht4 C
          go_wp2
          all_goals
           go_end0
           obtain ⟨j1, j2⟩ := join_sorted (lt := ltF cf0) (by omega) (by omega) (by omega) HCR.out HP3.out HT3.out HP4.out HT4.out
           exact ⟨rfl, _, r4, _, HW4.out, permIn_trans _ _ _ _ _ HPM.out j2, j1⟩
        ·have hc2' : ¬ ((mid : Int) < (en : Int)) ∨ ¬ ((en : Int) < (b : Int)) := by omega
         rcases hc2' with hc2' | hc2'
         all_goals
          go_wp2
          all_goals
           go_end0
           obtain ⟨j1, j2⟩ := join_sorted (lt := ltF cf0) (by omega) (by omega) (by omega) HCR.out HP3.out HT3.out (permIn_refl r3 mid b) (Parts.whole HP2'.out (by omega))
           exact ⟨rfl, _, r3, _, HQ.out, permIn_trans _ _ _ _ _ HPM.out j2, j1⟩
     ·have hid : ∀ x, d[x]! = rotV d i m en x := fun x => by
       unfold rotV
       repeat' split
       all_goals first | rfl | (exfalso; omega) | (congr 1; omega)
      obtain ⟨p1, p2, p3⟩ := HSPL.out d hid rfl
      obtain ⟨r1, hr1⟩ : ∃ r1, r1 = d := ⟨_, rfl⟩
      rw [← hr1] at p1 p2 p3
      have HPM : Hid (PermIn a b d r1) := by show PermIn a b d r1; rw [hr1]; exact permIn_refl d a b
      have HP1 := hide p1
      have HP2 := hide p2
      have HCR := hide p3
      have HQ0 := HQ
      clear HQ
      have HQ : Hid (wq = SW enc w blk off q r1 os) := by show _ = _; rw [hr1, ← HD.out]; exact HQ0.out
      clear HQ0 p1 p2 p3 hid HD hS HSPL hr1
      generalize q = q1 at *
      generalize os = os1 at *
      have hrot' : ¬ ((i : Int) < (m : Int)) ∨ ¬ ((m : Int) < (en : Int)) := by omega
      rcases hrot' with hrot' | hrot'
      all_goals
       have hS1 : r1.size = d.size := HPM.out.1
       by_cases hc1 : a < i ∧ i < mid
       ·have C := HIH.out a i mid r1 wq (by omega) (by rw [hS1, HQ.out]; exact cmp_again HC.out hblk q1 r1 os1 hS1) (by rw [HQ.out]; exact SW_holds HH.out hblk q1 r1 os1 hS1) (by rw [HQ.out]; exact SW_lt hblk q1 r1 os1) hc1.1 hc1.2 (by omega) (by omega) HP1.out
        rw [hS1] at C
        go_wp2_with fail
        all_goals
         refine C.mono ?_
         rintro e w3 ⟨rfl, q3, r3, os3, hw3, hp3, ht3⟩
         rw [HQ.out, SW_again enc w blk off q1 q3 r1 r3 os1 os3 hblk hp3.1] at hw3
         have HP3 := hide hp3
         have HT3 := hide ht3
         generalize q1 + q3 = q3 at hw3
         generalize os1 ++ os3 = os3 at hw3
         clear HQ
         have HQ := hide hw3
         clear hw3 hp3 ht3 C
         generalize w3 = wq at *
         have hS3 : r3.size = d.size := HP3.out.1.trans hS1
         have HP2' := hide (Parts.out HP2.out (fun x hx => HP3.out.2.1 x (.inr hx)) HP3.out.1)
         by_cases hc2 : mid < en ∧ en < b
         ·have C := HIH.out mid en b r3 wq (by omega) (by rw [hS3, HQ.out]; exact cmp_again HC.out hblk q3 r3 os3 hS3) (by rw [HQ.out]; exact SW_holds HH.out hblk q3 r3 os3 hS3) (by rw [HQ.out]; exact SW_lt hblk q3 r3 os3) hc2.1 hc2.2 (by omega) (by omega) HP2'.out
          rw [hS3] at C
          go_wp2_with fail
          all_goals
           refine C.mono ?_
           rintro e w4 ⟨rfl, q4, r4, os4, hw4, hp4, ht4⟩
           rw [HQ.out, SW_again enc w blk off q3 q4 r3 r4 os3 os4 hblk hp4.1] at hw4
           have HW4 := hide hw4
           have HP4 := hide hp4
           have HT4 := hide ht4
           clear hw4 hp4 ht4 C
           go_wp2
           all_goals
            go_end0
            obtain ⟨j1, j2⟩ := join_sorted (lt := ltF cf0) (by omega) (by omega) (by omega) HCR.out HP3.out HT3.out HP4.out HT4.out
            exact ⟨rfl, _, r4, _, HW4.out, permIn_trans _ _ _ _ _ HPM.out j2, j1⟩
         ·have hc2' : ¬ ((mid : Int) < (en : Int)) ∨ ¬ ((en : Int) < (b : Int)) := by omega
          rcases hc2' with hc2' | hc2'
          all_goals
           go_wp2
           all_goals
            go_end0
            obtain ⟨j1, j2⟩ := join_sorted (lt := ltF cf0) (by omega) (by omega) (by omega) HCR.out HP3.out HT3.out (permIn_refl r3 mid b) (Parts.whole HP2'.out (by omega))
            exact ⟨rfl, _, r3, _, HQ.out, permIn_trans _ _ _ _ _ HPM.out j2, j1⟩
       ·have hc1' : ¬ ((a : Int) < (i : Int)) ∨ ¬ ((i : Int) < (mid : Int)) := by omega
        obtain ⟨r3, hr3⟩ : ∃ r3, r3 = r1 := ⟨_, rfl⟩
        obtain ⟨q3, hq3⟩ : ∃ q3, q3 = q1 := ⟨_, rfl⟩
        obtain ⟨os3, ho3⟩ : ∃ os3, os3 = os1 := ⟨_, rfl⟩
        have HP3 : Hid (PermIn a mid r1 r3) := by show PermIn a mid r1 r3; rw [hr3]; exact permIn_refl r1 a mid
        have HT3 : Hid (TS (ltF cf0) a mid r3) := by show TS (ltF cf0) a mid r3; rw [hr3]; exact Parts.whole HP1.out (by omega)
        have HQ0 := HQ
        clear HQ
        have HQ : Hid (wq = SW enc w blk off q3 r3 os3) := by show _ = _; rw [hr3, hq3, ho3]; exact HQ0.out
        clear hr3 hq3 ho3
        rcases hc1' with hc1' | hc1'
        all_goals
         have hS3 : r3.size = d.size := HP3.out.1.trans hS1
         have HP2' := hide (Parts.out HP2.out (fun x hx => HP3.out.2.1 x (.inr hx)) HP3.out.1)
         by_cases hc2 : mid < en ∧ en < b
         ·have C := HIH.out mid en b r3 wq (by omega) (by rw [hS3, HQ.out]; exact cmp_again HC.out hblk q3 r3 os3 hS3) (by rw [HQ.out]; exact SW_holds HH.out hblk q3 r3 os3 hS3) (by rw [HQ.out]; exact SW_lt hblk q3 r3 os3) hc2.1 hc2.2 (by omega) (by omega) HP2'.out
          rw [hS3] at C
          go_wp2_with fail
          all_goals
           refine C.mono ?_
           rintro e w4 ⟨rfl, q4, r4, os4, hw4, hp4, ht4⟩
           rw [HQ.out, SW_again enc w blk off q3 q4 r3 r4 os3 os4 hblk hp4.1] at hw4
           have HW4 := hide hw4
           have HP4 := hide hp4
           have HT4 := hide ht4
           clear hw4 hp4 ht4 C
           go_wp2
           all_goals
            go_end0
            obtain ⟨j1, j2⟩ := join_sorted (lt := ltF cf0) (by omega) (by omega) (by omega) HCR.out HP3.out HT3.out HP4.out HT4.out
            exact ⟨rfl, _, r4, _, HW4.out, permIn_trans _ _ _ _ _ HPM.out j2, j1⟩
         ·have hc2' : ¬ ((mid : Int) < (en : Int)) ∨ ¬ ((en : Int) < (b : Int)) := by omega
          rcases hc2' with hc2' | hc2'
          all_goals
           go_wp2
           all_goals
            go_end0
            obtain ⟨j1, j2⟩ := join_sorted (lt := ltF cf0) (by omega) (by omega) (by omega) HCR.out HP3.out HT3.out (permIn_refl r3 mid b) (Parts.whole HP2'.out (by omega))
            exact ⟨rfl, _, r3, _, HQ.out, permIn_trans _ _ _ _ _ HPM.out j2, j1⟩
end
end StabInt
end Go.Proofs.YtehlbomkldnalaaGreat

/- The library's stable sort of int: insertion (after the kit's slices.insertionSortCmpFunc at structs, which is proved over another program's text). -/
namespace Go.Proofs.YtehlbomkldnalaaGreat
open Go Go.Sort Go.RowKit Go.Lib Go.Shelf Go.Proofs
namespace StabInt
variable {P : Program} {α : Type} [Inhabited α]
section
variable (L : Lay P) (enc : α → Value) (hk : OneCell enc)
include L hk
set_option maxHeartbeats 4000000 in
set_option maxRecDepth 1000000 in
theorem insertion_any (cf : α → α → Int) (g : Nat) (cb : Array Value) (blk off cap a b : Nat) (d : Array α) (w : World)
  (eg : ∀ args w, (callFunc g args).run P w = .ok (.enter g args) w) (hcmp : CmpLays1 P g cb enc cf blk off d.size w) (hH : Holds enc w blk off d) (hblk : blk < w.heap.size) (hab : a ≤ b) (hb : b ≤ d.size) (hsz : d.size < 4611686018427387904) :
  Calls P 107 #[.slice (some ⟨blk, off, none⟩) d.size cap, a, b, .func (.func g) #[] cb] w fun e w' =>
   e = .returned (.tuple #[]) ∧ ∃ n os, w' = SW enc w blk off n (Sort.insertionSort (ltOf cf) d a b) os := by
 have mixed := L.mixed; have tS := L.tS; have aS := L.aS; have zS := L.zS; have vS := L.vS; have t3 := L.t3; have a3 := L.a3; have z3 := L.z3; have v3 := L.v3; have t4 := L.t4; have a4 := L.a4; have z4 := L.z4; have v4 := L.v4; have tU := L.tU; have aU := L.aU; have zU := L.zU; have vU := L.vU
 have uS := run_underlying L.tS
 have eIns := L.eIns; have eSwr := L.eSwr; have eRot := L.eRot; have eSym := L.eSym; have eStb := L.eStb
 have HC : Aside _ := hcmp
 have HST : Hid (w = SW enc w blk off 0 d #[]) := by show w = _; unfold SW sortWorld; rw [grow_empty]; exact (putRow_self enc w blk off d hH).symm
 have HH : Hid (Holds enc w blk off d) := hH
 have HK : Hid (OneCell enc) := hk
 clear hcmp
 clear hH hk
 go_enter L.fIns, Tryz.ntmps107
 go_wp2
 go_loopg [8] (b - a) (fun g1 vi wr => ∃ (i n : Nat) (dk : Array α) (os : Array Obj), vi = .int .i64 i ∧ a < i ∧ i ≤ b + 1 ∧ b + 1 - i ≤ g1 + 1 ∧ dk.size = d.size ∧ Hid (wr = SW enc w blk off n dk os) ∧ Hid (insOuter (ltOf cf) a b i dk = insOuter (ltOf cf) a b (a + 1) d))
 case atStart => exact ⟨a + 1, 0, d, #[], by go_num, by omega, by omega, by omega, rfl, HST, rfl⟩
 case round =>
  obtain ⟨i, n0, dk0, os0, rfl, hai, hib, hg1, hsk, HQ0, HO⟩ := hrel
  by_cases hlt : i < b
  ·have hltz : (i : Int) < (b : Int) := by omega
   go_wp2
   -- the inner loop
   go_loopg [9] i (fun g2 vj wr2 => ∃ (j q : Nat) (dk : Array α) (os : Array Obj), vj = .int .i64 j ∧ a ≤ j ∧ j ≤ i ∧ j ≤ g2 ∧ dk.size = d.size ∧ Hid (wr2 = SW enc w blk off q dk os) ∧ Hid (insInner (ltOf cf) a j dk = insInner (ltOf cf) a i dk0))
   case atStart => exact ⟨i, n0, dk0, os0, rfl, by omega, Nat.le_refl _, Nat.le_refl _, hsk, HQ0, rfl⟩
   case round =>
    clear HQ0
    obtain ⟨j, q, dk, os, rfl, haj, hji, hg2, hS, HQ, HI⟩ := hrel
    generalize wr = wq at *
    have out : (j ≤ a ∨ ltOf cf dk[j]! dk[j - 1]! = false) → Hid (insOuter (ltOf cf) a b (i + 1) dk = insOuter (ltOf cf) a b (a + 1) d) := fun hs => by
     show _ = _
     rw [← HO.out, insOuter_go _ _ _ _ _ hlt, ← HI.out, insInner_stop _ _ _ _ hs]
    have OUT : Aside _ := out
    clear out
    by_cases hja : a < j
    ·have hjaz : (a : Int) < (j : Int) := by omega
     obtain ⟨p, hp⟩ : ∃ p, p + 1 = j := ⟨j - 1, by omega⟩
     have zjp : (j : Int) = (p : Int) + 1 := by omega
     have HJ1 : Hid (p + 1 = j) := hp
     have hjaz' : (a : Int) < (p : Int) + 1 := by omega
     have hjad : decide ((p : Int) + 1 > (a : Int)) = true := decide_eq_true (by omega)
     have z1 : (0 : Int) ≤ (p : Int) + 1 := by omega
     have z5 : (p : Int) + 1 < (d.size : Int) := by omega
     have z6 : (p : Int) < (d.size : Int) := by omega
     have z7 : (0 : Int) ≤ (p : Int) := by omega
     have x1 := IntWalk.i64_in ((p : Int) + 1) (by omega)
     have x2 : IntKind.i64.wrap (p : Int) = (p : Int) := IntWalk.i64_in _ (by omega)
     have y1 : ((p : Int) + 1).toNat = j := by omega
     have y2 : (p : Int).toNat = p := by omega
     have hjs : j < dk.size := by omega
     have hps : p < dk.size := by omega
     clear hp
     by_cases hlv : cf dk[j]! dk[p]! < 0
     ·have hd1 : decide (cf dk[j]! dk[p]! < 0) = true := decide_eq_true hlv
      have S0 : Go.Proofs.SW enc w blk off dk wq := ⟨_, _, HQ.out⟩
      have R0 : Row1 enc w blk off d := ⟨HK.out, HH.out, hblk⟩
      have hcl0 := HK.out.cells
      simp only [Value.cells] at hcl0
      have hst := HK.out.store P
      have l1 := S0.cl R0 hS j hjs
      have l2 := S0.cl R0 hS p hps
      have hcg := S0.cmp HC.out hS dk[j]! dk[p]!
      have CLS : Hid (∀ n' os', grow (wq.drewN n') os' = SW enc w blk off (q + n') dk (os ++ os')) := fun n' os' => by rw [HQ.out]; exact sortWorld_grown_c enc w blk off q n' dk os os'
      clear S0 R0
      go_wp2_with fail
      go_quiet_grown (first | (go_at_fn g; refine Calls.grown_of (hcg _ _)))
      have HQ2 : Hid (grow (wq.drewN nq) osq = SW enc w blk off (q + nq) dk (os ++ osq)) := CLS.out nq osq
      clear l1 l2 hcg CLS HQ hcl0 hst
      generalize grow (wq.drewN nq) osq = wq2 at *
      generalize q + nq = q2 at *
      generalize os ++ osq = os2 at *
      clear nq osq
      go_wp2_with fail
      generalize wq = wold at *
      generalize wq2 = wq at *
      have HQ := HQ2
      clear HQ2
      have S0 : Go.Proofs.SW enc w blk off dk wq := ⟨_, _, HQ.out⟩
      have R0 : Row1 enc w blk off d := ⟨HK.out, HH.out, hblk⟩
      have hcl0 := HK.out.cells
      simp only [Value.cells] at hcl0
      have hst := HK.out.store P
      skip
      have hI : j < dk.size := by omega
      have hJ : p < dk.size := by omega
      have cI := S0.c1 R0 hS j hI
      have cJ := S0.c1 R0 hS p hJ
      have fI := S0.f1 R0 hS j hI
      have fJ := S0.f1 R0 hS p hJ
      obtain ⟨x1, hx1⟩ : ∃ x, x = dk[j]! := ⟨_, rfl⟩
      obtain ⟨x2, hx2⟩ : ∃ x, x = dk[p]! := ⟨_, rfl⟩
      obtain ⟨u2, cU⟩ := S0.c2 R0 hS j p hI hJ (enc x2)
      rw [← hx1] at cI
      rw [← hx2] at cJ
      have CC : Hid (x1 = dk[j]! ∧ x2 = dk[p]!) := ⟨hx1, hx2⟩
      skip
      clear S0 R0 hx1 hx2
      go_big_region_o
      all_goals go_wp2
      go_roundg p
      case measure => omega
      case rel =>
       have hp := HJ1.out
       refine ⟨p, q2 + 1, swp dk j p, os2, by first | rfl | go_num | (congr 1; omega), by omega, by omega, Nat.le_refl _, by rw [size_swp]; exact hS, (show Hid _ from ?_), (show Hid _ from ?_)⟩
       ·show _ = _
        rw [CC.out.1, CC.out.2, HQ.out]
        exact swp1_c enc w blk off q2 dk os2 hblk j p hI hJ
       ·show _ = _
        have hpj : j - 1 = p := by omega
        have := insInner_go (ltOf cf) a j dk hja (by rw [hpj]; exact decide_eq_true hlv)
        rw [hpj] at this
        rw [← HI.out, this]
     · -- not less: out of the inner loop
      have hd1 : decide (cf dk[j]! dk[p]! < 0) = false := decide_eq_false hlv
      have S0 : Go.Proofs.SW enc w blk off dk wq := ⟨_, _, HQ.out⟩
      have R0 : Row1 enc w blk off d := ⟨HK.out, HH.out, hblk⟩
      have hcl0 := HK.out.cells
      simp only [Value.cells] at hcl0
      have hst := HK.out.store P
      have l1 := S0.cl R0 hS j hjs
      have l2 := S0.cl R0 hS p hps
      have hcg := S0.cmp HC.out hS dk[j]! dk[p]!
      have CLS : Hid (∀ n' os', grow (wq.drewN n') os' = SW enc w blk off (q + n') dk (os ++ os')) := fun n' os' => by rw [HQ.out]; exact sortWorld_grown_c enc w blk off q n' dk os os'
      clear S0 R0
      go_wp2_with fail
      go_quiet_grown (first | (go_at_fn g; refine Calls.grown_of (hcg _ _)))
      go_wp2
      go_roundg (b - (i + 1))
      case measure => omega
      case rel =>
       have hp := HJ1.out
       exact ⟨i + 1, _, dk, _, by go_num, by omega, by omega, by omega, hS, (CLS.out nq osq : _ = _), OUT.out (Or.inr (by rw [show j - 1 = p by omega]; exact decide_eq_false (by omega)))⟩
    · -- j = a: out of the inner loop (the guard is false: 'cmp' is not called)
     have hjaz : decide ((j : Int) > (a : Int)) = false := decide_eq_false (by omega)
     have hjaz' : ¬ (a : Int) < (j : Int) := by omega
     have HDR : Hid (wq.drew = SW enc w blk off (q + 1) dk os) := by
      show _ = _
      rw [HQ.out]
      have := sortWorld_grown_c enc w blk off q 1 dk os #[]
      rw [grow_empty, Array.append_empty] at this
      exact this
     go_wp2_with fail
     go_big_region_o
     all_goals go_wp2
     go_roundg (b - (i + 1))
     case measure => omega
     case rel => exact ⟨i + 1, q + 1, dk, os, by go_num, by omega, by omega, by omega, hS, HDR, OUT.out (Or.inl (by omega))⟩
  ·have hltz : ¬ (i : Int) < (b : Int) := by omega
   go_wp2
   go_end0
   exact ⟨rfl, n0, os0, by unfold Sort.insertionSort; rw [← insOuter_stop (ltOf cf) a b i dk0 hlt, HO.out] at HQ0; exact HQ0.out⟩
end
end StabInt
end Go.Proofs.YtehlbomkldnalaaGreat

/- The library's stable sort of int: the whole. -/
namespace Go.Proofs.YtehlbomkldnalaaGreat
open Go Go.Sort Go.RowKit Go.Lib Go.Shelf Go.Proofs
namespace StabInt
variable {P : Program}
section
variable {α : Type} [Inhabited α] (L : Lay P) (enc0 : α → Value) (hk : OneCell enc0) (cf0 : α → α → Int)
theorem ltOf_T {α : Type} (cf0 : α → α → Int) : ltOf (cfT cf0) = ltT (ltF cf0) := rfl
include L hk
-- one call of insertion: from place a to place b of dk, in the world wq; HQ; hpt: the tags from a on
theorem ins_step (hS : SWO (ltF cf0)) (g : Nat) (cb : Array Value) (blk off cap a b : Nat) (d dk : Array (α × Nat)) (w wq : World) (q : Nat) (os : Array Obj) (eg : ∀ args w, (callFunc g args).run P w = .ok (.enter g args) w)
  (hcmp : Cmp P g cb (encT enc0) (cfT cf0) blk off d.size w) (hH : Holds (encT enc0) w blk off d) (hblk : blk < w.heap.size) (hab : a ≤ b) (hb : b ≤ d.size) (hsz : d.size ≤ 1000000000) (hs : dk.size = d.size) (hq : wq = SW (encT enc0) w blk off q dk os)
  (ht : ∀ p q, a ≤ p → p < q → q < b → dk[p]!.2 < dk[q]!.2) :
  Calls P 107 #[.slice (some ⟨blk, off, none⟩) d.size cap, a, b, .func (.func g) #[] cb] wq fun e w' =>
   e = .returned (.tuple #[]) ∧ ∃ q r os, w' = SW (encT enc0) w blk off q r os ∧ PermIn a b dk r ∧ TS (ltF cf0) a b r := by
 have C := insertion_any L (encT enc0) (fun x => hk x.1) (cfT cf0) g cb blk off cap a b dk wq eg (by rw [hs, hq]; exact cmp_again hcmp hblk q dk os hs) (by rw [hq]; exact SW_holds hH hblk q dk os hs) (by rw [hq]; exact SW_lt hblk q dk os) hab (by omega) (by omega)
 rw [hs] at C
 refine C.mono ?_
 rintro e w' ⟨rfl, n, os', hw⟩
 obtain ⟨t1, t2⟩ := ins_sorted hS hab (by omega : b ≤ dk.size) ht
 rw [ltOf_T] at hw
 refine ⟨rfl, q + n, _, os ++ os', ?_, t2, t1⟩
 rw [hw, hq]
 exact SW_again (encT enc0) w blk off q n dk _ os os' hblk t2.1
theorem merge_step (hS : SWO (ltF cf0)) (g : Nat) (cb : Array Value) (blk off cap a m b : Nat) (d dk : Array (α × Nat)) (w wq : World) (q : Nat) (os : Array Obj) (eg : ∀ args w, (callFunc g args).run P w = .ok (.enter g args) w)
  (hcmp : Cmp P g cb (encT enc0) (cfT cf0) blk off d.size w) (hH : Holds (encT enc0) w blk off d) (hblk : blk < w.heap.size) (ham : a < m) (hmb : m < b) (hb : b ≤ d.size) (hsz : d.size ≤ 1000000000) (hs : dk.size = d.size) (hq : wq = SW (encT enc0) w blk off q dk os)
  (hP : Parts (ltF cf0) a m b dk) :
  Calls P 108 #[.slice (some ⟨blk, off, none⟩) d.size cap, a, m, b, .func (.func g) #[] cb] wq fun e w' =>
   e = .returned (.tuple #[]) ∧ ∃ q r os, w' = SW (encT enc0) w blk off q r os ∧ PermIn a b dk r ∧ TS (ltF cf0) a b r := by
 have C := symMerge_any L enc0 hk cf0 hS g cb blk off cap eg (b - a) a m b dk wq (Nat.le_refl _) (by rw [hs, hq]; exact cmp_again hcmp hblk q dk os hs) (by rw [hq]; exact SW_holds hH hblk q dk os hs) (by rw [hq]; exact SW_lt hblk q dk os) ham hmb (by omega) (by omega) hP
 rw [hs] at C
 refine C.mono ?_
 rintro e w' ⟨rfl, n, r, os', hw, hp, ht⟩
 refine ⟨rfl, q + n, r, os ++ os', ?_, hp, ht⟩
 rw [hw, hq]
 exact SW_again (encT enc0) w blk off q n dk r os os' hblk hp.1
set_option maxHeartbeats 8000000 in
set_option maxRecDepth 1000000 in
theorem stable_any (hS : SWO (ltF cf0)) (g : Nat) (cb : Array Value) (blk off cap : Nat) (d : Array (α × Nat)) (w : World) (eg : ∀ args w, (callFunc g args).run P w = .ok (.enter g args) w)
  (hcmp : Cmp P g cb (encT enc0) (cfT cf0) blk off d.size w) (hH : Holds (encT enc0) w blk off d) (hblk : blk < w.heap.size) (hsz : d.size ≤ 1000000000) (ht : ∀ i, i < d.size → d[i]!.2 = i) :
  Calls P 85 #[.slice (some ⟨blk, off, none⟩) d.size cap, d.size, .func (.func g) #[] cb] w (Sorted_ (ltF cf0) (encT enc0) w blk off 0 d.size d) := by
 have INS := hide (fun (a b : Nat) (dk : Array (α × Nat)) (wq : World) (q : Nat) (os : Array Obj) => ins_step L enc0 hk cf0 hS g cb blk off cap a b d dk w wq q os eg hcmp hH hblk)
 have MRG := hide (fun (a m b : Nat) (dk : Array (α × Nat)) (wq : World) (q : Nat) (os : Array Obj) => merge_step L enc0 hk cf0 hS g cb blk off cap a m b d dk w wq q os eg hcmp hH hblk)
 have HST : Hid (w = SW (encT enc0) w blk off 0 d #[]) := SW_start hH
 have HT := hide ht
 obtain ⟨enc, henc⟩ : ∃ enc, enc = encT enc0 := ⟨_, rfl⟩
 rw [← henc] at INS MRG HST ⊢
 obtain ⟨n, hn⟩ : ∃ n, n = d.size := ⟨_, rfl⟩
 rw [← hn] at INS MRG hsz HT ⊢
 have HN := hide hn
 have mixed := L.mixed; have tS := L.tS; have aS := L.aS; have zS := L.zS; have vS := L.vS; have t3 := L.t3; have a3 := L.a3; have z3 := L.z3; have v3 := L.v3; have t4 := L.t4; have a4 := L.a4; have z4 := L.z4; have v4 := L.v4; have tU := L.tU; have aU := L.aU; have zU := L.zU; have vU := L.vU
 have uS := run_underlying L.tS
 have eIns := L.eIns; have eSwr := L.eSwr; have eRot := L.eRot; have eSym := L.eSym; have eStb := L.eStb
 clear hk hcmp hH hS ht henc hn
 go_enter L.fStb, Tryz.ntmps85
 go_wp2
 go_loopg [7, 8] n (fun g1 va vb wr => ∃ (c a q : Nat) (os : Array Obj) (dk : Array (α × Nat)), va = .int .i64 a ∧ vb = .int .i64 ((a + 20 : Nat) : Int) ∧ a = c * 20 ∧ a ≤ n ∧ n - a ≤ g1 ∧ Hid (wr = SW enc w blk off q dk os) ∧ Hid (BSt (ltF cf0) 20 0 a dk) ∧ Hid (PermIn 0 n d dk) ∧ Hid (BTg 20 n dk) ∧ Hid (∀ i, a ≤ i → i < n → dk[i]! = d[i]!))
 case atStart => exact ⟨0, 0, 0, #[], d, rfl, rfl, by omega, by omega, by omega, HST, hide fun i j h1 h2 h3 => by omega, hide (permIn_refl d 0 n), hide (BTg.one HT.out 20), hide fun i h1 h2 => rfl⟩
 case round =>
  obtain ⟨c, a, q, os, dk, rfl, rfl, ha, han, hg1, HQ, HB, HP, HG, HD⟩ := hrel
  have HA := hide ha
  clear ha
  generalize wr = wq at *
  have hs : dk.size = n := HP.out.1.trans HN.out.symm
  have htg : ∀ e, a ≤ e → e ≤ n → ∀ p q, a ≤ p → p < q → q < e → dk[p]!.2 < dk[q]!.2 := fun e _ h0 p q h1 h2 h3 => by
   rw [HD.out p h1 (by omega), HD.out q (by omega) (by omega), HT.out p (by omega), HT.out q (by omega)]; exact h2
  have HTG := hide htg
  clear htg
  by_cases hlt : a + 20 ≤ n
  ·have C := INS.out a (a + 20) dk wq q os (by omega) (by omega) hsz hs HQ.out (HTG.out _ (by omega) hlt)
   go_wp2_with fail
   refine C.mono ?_
   rintro e w2 ⟨rfl, q2, r, os2, hw2, hp2, ht2⟩
   have HW2 := hide hw2
   have HP2 := hide hp2
   have HT2 := hide ht2
   clear hw2 hp2 ht2 C
   go_wp2
   go_roundg (n - (a + 20))
   case measure => omega
   case rel =>
    refine ⟨c + 1, a + 20, q2, os2, r, rfl, by go_num, by have := HA.out; omega, hlt, Nat.le_refl _, HW2, hide (BSt.step HA.out (by omega) (Nat.le_refl _) HB.out HP2.out HT2.out), hide (permIn_trans _ _ _ _ _ HP.out (permIn_mono _ _ a (a + 20) 0 n (by omega) hlt (by omega) HP2.out)), hide (BTg.step HA.out (Nat.le_refl _) hlt (by omega) HG.out HP2.out), hide fun i h1 h2 => ?_⟩
    rw [HP2.out.2.1 i (.inr h1)]; exact HD.out i (by omega) h2
  ·have C := INS.out a n dk wq q os (by omega) (by omega) hsz hs HQ.out (HTG.out _ han (Nat.le_refl _))
   have hlt' : ¬ (((a + 20 : Nat) : Int) ≤ (n : Int)) := by omega
   go_wp2_with fail
   refine C.mono ?_
   rintro e w2 ⟨rfl, q2, r, os2, hw2, hp2, ht2⟩
   have HB2 : Hid (BSt (ltF cf0) 20 0 n r) := BSt.step HA.out (by omega) (by omega) HB.out hp2 ht2
   have HP3 : Hid (PermIn 0 n d r) := permIn_trans _ _ _ _ _ HP.out (permIn_mono _ _ a n 0 n (by omega) (Nat.le_refl _) (by omega) hp2)
   have HG2 : Hid (BTg 20 n r) := BTg.step HA.out (by omega) (Nat.le_refl _) (by omega) HG.out hp2
   have HW2 := hide hw2
   clear hw2 hp2 ht2 C HQ HB HP HG HD HTG hs
   go_wp2
   generalize w2 = wq at HW2
   go_loopg [6] n (fun g2 vs wr => ∃ (bs q : Nat) (os : Array Obj) (dk : Array (α × Nat)), vs = .int .i64 bs ∧ 20 ≤ bs ∧ bs ≤ 2 * n + 20 ∧ n - bs ≤ g2 ∧ Hid (wr = SW enc w blk off q dk os) ∧ Hid (BSt (ltF cf0) bs 0 n dk) ∧ Hid (PermIn 0 n d dk) ∧ Hid (BTg bs n dk))
   case atStart => exact ⟨20, q2, os2, r, rfl, by omega, by omega, by omega, HW2, HB2, HP3, HG2⟩
   case round =>
    clear HW2 HB2 HP3 HG2 HA
    obtain ⟨bs, q, os, dk, rfl, hbs, hbs2, hg2, HQ, HB, HP, HG⟩ := hrel
    generalize wr = wq at *
    by_cases hlt2 : bs < n
    ·go_wp2
     have hm2 : ((2 * bs : Nat) : Int) = 2 * (bs : Int) := by omega
     go_loopg [7, 8] n (fun g3 va vb wr => ∃ (c a q : Nat) (os : Array Obj) (dk : Array (α × Nat)), va = .int .i64 a ∧ vb = .int .i64 ((a + 2 * bs : Nat) : Int) ∧ a ≤ n ∧ n - a ≤ g3 ∧ Hid (a = c * (2 * bs)) ∧ Hid (wr = SW enc w blk off q dk os) ∧ Hid (PermIn 0 n d dk) ∧ Hid (BSt (ltF cf0) (2 * bs) 0 a dk) ∧ Hid (∀ i j, a ≤ i → i < j → j < n → i / bs = j / bs → TL (ltF cf0) dk[i]! dk[j]!) ∧ Hid (BTg (2 * bs) n dk) ∧ Hid (∀ i, a ≤ i → i < n → dk[i]!.2 / bs = i / bs))
     case atStart => exact ⟨0, 0, q, os, dk, rfl, by go_num, by omega, by omega, hide (by omega), HQ, HP, hide fun i j h1 h2 h3 => by omega, hide fun i j h1 h2 h3 => HB.out i j (by omega) h2 h3, hide HG.out.half, hide fun i h1 h2 => HG.out i h2⟩
     case round =>
      clear HQ HB HP HG
      obtain ⟨c, a, q, os, dk, rfl, rfl, han, hg3, HA, HQ, HP, HB2, HB1, HG2, HG1⟩ := hrel
      generalize wr = wq at *
      have hs : dk.size = n := HP.out.1.trans HN.out.symm
      by_cases hlt : a + 2 * bs ≤ n
      ·have hlt' : ((a + 2 * bs : Nat) : Int) ≤ (n : Int) := by omega
       have HPT := parts_of HA.out (e := a + 2 * bs) (by omega) (Nat.le_refl _) hlt (by omega) HB1.out HG1.out
       have C := MRG.out a (a + bs) (a + 2 * bs) dk wq q os (by omega) (by omega) hlt hsz hs HQ.out HPT
       have e1 : ((a + bs : Nat) : Int) = (a : Int) + (bs : Int) := by omega
       rw [e1] at C
       go_wp2_with fail
       refine C.mono ?_
       rintro e w2 ⟨rfl, q2, r, os2, hw2, hp2, ht2⟩
       have HW2 := hide hw2
       have HP2 := hide hp2
       have HT2 := hide ht2
       clear hw2 hp2 ht2 C HPT e1
       go_wp2
       go_roundg (n - (a + 2 * bs))
       case measure => omega
       case rel =>
        refine ⟨c + 1, a + 2 * bs, q2, os2, r, rfl, by go_num, hlt, Nat.le_refl _, hide (by rw [Nat.add_mul, ← HA.out, Nat.one_mul]), HW2, hide (permIn_trans _ _ _ _ _ HP.out (permIn_mono _ _ a (a + 2 * bs) 0 n (by omega) hlt (by omega) HP2.out)), hide (BSt.step HA.out (by omega) (Nat.le_refl _) HB2.out HP2.out HT2.out), hide fun i j h1 h2 h3 h4 => ?_, hide (BTg.step HA.out (Nat.le_refl _) hlt (by omega) HG2.out HP2.out), hide fun i h1 h2 => ?_⟩
        ·rw [HP2.out.2.1 i (.inr h1), HP2.out.2.1 j (.inr (by omega))]; exact HB1.out i j (by omega) h2 h3 h4
        ·rw [HP2.out.2.1 i (.inr h1)]; exact HG1.out i (by omega) h2
      ·have hlt' : ¬ (((a + 2 * bs : Nat) : Int) ≤ (n : Int)) := by omega
       by_cases hm : a + bs < n
       ·have HPT := parts_of HA.out (e := n) hm (by omega) (Nat.le_refl _) (by omega) HB1.out HG1.out
        have C := MRG.out a (a + bs) n dk wq q os (by omega) hm (Nat.le_refl _) hsz hs HQ.out HPT
        have e1 : ((a + bs : Nat) : Int) = (a : Int) + (bs : Int) := by omega
        rw [e1] at C
        go_wp2_with fail
        refine C.mono ?_
        rintro e w2 ⟨rfl, q2, r, os2, hw2, hp2, ht2⟩
        have HW2 := hide hw2
        have HP2 := hide hp2
        have HT2 := hide ht2
        clear hw2 hp2 ht2 C HPT e1
        go_wp2
        go_roundg (n - 2 * bs)
        case measure => omega
        case rel =>
         exact ⟨2 * bs, q2, os2, r, by go_num, by omega, by omega, Nat.le_refl _, HW2, hide (BSt.step HA.out (by omega) (by omega) HB2.out HP2.out HT2.out), hide (permIn_trans _ _ _ _ _ HP.out (permIn_mono _ _ a n 0 n (by omega) (Nat.le_refl _) (by omega) HP2.out)), hide (BTg.step HA.out (by omega) (Nat.le_refl _) (by omega) HG2.out HP2.out)⟩
       ·go_wp2
        go_roundg (n - 2 * bs)
        case measure => omega
        case rel =>
         exact ⟨2 * bs, q, os, dk, by go_num, by omega, by omega, Nat.le_refl _, HQ, hide (BSt.rest HA.out (by omega) HB2.out HB1.out), HP, HG2⟩
    ·go_wp2
     go_end0
     exact ⟨rfl, q, dk, os, HQ.out, HP.out, BSt.all HB.out (by omega)⟩
set_option maxHeartbeats 2000000 in
/-- THE CONTRACT of slices.SortStableFunc -/
theorem sortStable_any (hS : SWO (ltF cf0)) (g : Nat) (cb : Array Value) (blk off cap : Nat) (d : Array (α × Nat)) (w : World) (eg : ∀ args w, (callFunc g args).run P w = .ok (.enter g args) w)
  (hcmp : Cmp P g cb (encT enc0) (cfT cf0) blk off d.size w) (hH : Holds (encT enc0) w blk off d) (hblk : blk < w.heap.size) (hsz : d.size ≤ 1000000000) (ht : ∀ i, i < d.size → d[i]!.2 = i) :
  Calls P 75 #[.slice (some ⟨blk, off, none⟩) d.size cap, .func (.func g) #[] cb] w (Sorted_ (ltF cf0) (encT enc0) w blk off 0 d.size d) := by
 have C := stable_any L enc0 hk cf0 hS g cb blk off cap d w eg hcmp hH hblk hsz ht
 generalize d.size = n at *
 have mixed := L.mixed; have tS := L.tS; have aS := L.aS; have zS := L.zS; have vS := L.vS; have t3 := L.t3; have a3 := L.a3; have z3 := L.z3; have v3 := L.v3; have t4 := L.t4; have a4 := L.a4; have z4 := L.z4; have v4 := L.v4; have tU := L.tU; have aU := L.aU; have zU := L.zU; have vU := L.vU
 have uS := run_underlying L.tS
 have eIns := L.eIns; have eSwr := L.eSwr; have eRot := L.eRot; have eSym := L.eSym; have eStb := L.eStb
 clear hk hcmp hH hS ht
 go_enter L.fTop, Tryz.ntmps75
 go_wp2_with fail
 refine C.mono ?_
 rintro e w2 ⟨rfl, h⟩
 have HH := hide h
 clear h C
 go_wp2
 go_end0
 exact ⟨rfl, HH.out⟩
end
end StabInt
end Go.Proofs.YtehlbomkldnalaaGreat

/- A stable sort by a key: the plain words. -/
namespace Go.Proofs.YtehlbomkldnalaaGreat
open Go Go.Sort Go.RowKit
section
variable {α : Type} (key : α → Int)
def TK (x y : α × Nat) : Prop := key x.1 < key y.1 ∨ (key x.1 = key y.1 ∧ x.2 < y.2)
def insK (a : α) : List α → List α
 | [] => [a]
 | b :: r => if key a < key b then a :: b :: r else b :: insK a r
def sortK (l : List α) : List α := l.foldl (fun acc a => insK key a acc) []
def insKT (a : α × Nat) : List (α × Nat) → List (α × Nat)
 | [] => [a]
 | b :: r => if key a.1 < key b.1 then a :: b :: r else b :: insKT a r
theorem insKT_map (a : α × Nat) : ∀ l, (insKT key a l).map (·.1) = insK key a.1 (l.map (·.1))
 | [] => rfl
 | b :: r => by
  unfold insKT
  simp only [List.map_cons]
  rw [insK]
  split
  ·rfl
  ·rw [List.map_cons, insKT_map a r]
theorem insKT_perm (a : α × Nat) : ∀ l, (insKT key a l).Perm (a :: l)
 | [] => List.Perm.refl _
 | b :: r => by
  unfold insKT
  split
  ·exact List.Perm.refl _
  ·exact ((insKT_perm a r).cons b).trans (List.Perm.swap a b r)
theorem insK_perm (a : α) : ∀ l, (insK key a l).Perm (a :: l)
 | [] => List.Perm.refl _
 | b :: r => by
  unfold insK
  split
  ·exact List.Perm.refl _
  ·exact ((insK_perm a r).cons b).trans (List.Perm.swap a b r)
theorem insK_sorted (a : α) : ∀ l : List α, l.Pairwise (fun x y => key x ≤ key y) → (insK key a l).Pairwise (fun x y => key x ≤ key y)
 | [], _ => by simp [insK]
 | b :: r, h => by
  unfold insK
  have h1 := List.pairwise_cons.1 h
  split
  ·rename_i hlt
   refine List.pairwise_cons.2 ⟨fun c hc => ?_, h⟩
   rcases List.mem_cons.1 hc with rfl | hc
   ·omega
   ·have := h1.1 c hc
    omega
  ·rename_i hge
   refine List.pairwise_cons.2 ⟨fun c hc => ?_, insK_sorted a r h1.2⟩
   rcases List.mem_cons.1 ((insK_perm key a r).subset hc) with rfl | hc
   ·omega
   ·exact h1.1 c hc
theorem fold_perm : ∀ (l acc : List α), (l.foldl (fun acc a => insK key a acc) acc).Perm (acc ++ l)
 | [], acc => by simp
 | a :: l, acc => (fold_perm l (insK key a acc)).trans (((insK_perm key a acc).append_right l).trans List.perm_middle.symm)
theorem sortK_perm (l : List α) : (sortK key l).Perm l := by simpa [sortK] using fold_perm key l []
theorem sortK_len (l : List α) : (sortK key l).length = l.length := (sortK_perm key l).length_eq
theorem fold_asc : ∀ (l acc : List α), acc.Pairwise (fun x y => key x ≤ key y) → (l.foldl (fun acc a => insK key a acc) acc).Pairwise (fun x y => key x ≤ key y)
 | [], _, h => h
 | a :: l, acc, h => fold_asc l (insK key a acc) (insK_sorted key a acc h)
theorem sortK_asc (l : List α) : (sortK key l).Pairwise (fun x y => key x ≤ key y) := fold_asc key l [] List.Pairwise.nil
theorem sortK_snoc (l : List α) (a : α) : sortK key (l ++ [a]) = insK key a (sortK key l) := by unfold sortK; rw [List.foldl_append]; rfl
/-- where a new element comes to lie -/
theorem insK_split (a : α) : ∀ (l : List α) (k : Nat), k ≤ l.length → (∀ (i : Nat) x, i < k → l[i]? = some x → key x ≤ key a) → (∀ x, l[k]? = some x → key a < key x) → insK key a l = l.take k ++ a :: l.drop k
 | [], k, h, _, _ => by
  obtain rfl : k = 0 := by simpa using h
  rfl
 | b :: r, 0, _, _, h => by
  unfold insK
  rw [if_pos (h b rfl)]; rfl
 | b :: r, k + 1, hk, h1, h2 => by
  unfold insK
  rw [if_neg (by have := h1 0 b (by omega) rfl; omega), insK_split a r k (by simpa using hk) (fun i x hi hx => h1 (i + 1) x (by omega) (by simpa using hx)) (fun x hx => h2 x (by simpa using hx))]
  rfl
variable {key}
theorem insKT_sorted (a : α × Nat) : ∀ l : List (α × Nat), l.Pairwise (TK key) → (∀ b ∈ l, b.2 < a.2) → (insKT key a l).Pairwise (TK key)
 | [], _, _ => by simp [insKT]
 | b :: r, h, ht => by
  unfold insKT
  have h1 := List.pairwise_cons.1 h
  split
  ·rename_i hlt
   refine List.pairwise_cons.2 ⟨fun c hc => ?_, h⟩
   rcases List.mem_cons.1 hc with rfl | hc
   ·exact .inl hlt
   ·have := h1.1 c hc
    unfold TK at this ⊢
    omega
  ·rename_i hge
   refine List.pairwise_cons.2 ⟨fun c hc => ?_, insKT_sorted a r h1.2 fun c hc => ht c (by simp [hc])⟩
   rcases List.mem_cons.1 ((insKT_perm key a r).subset hc) with rfl | hc
   ·have := ht b (by simp)
    unfold TK
    omega
   ·exact h1.1 c hc
theorem foldK_sorted : ∀ (l : List α) (n : Nat) (acc : List (α × Nat)), acc.Pairwise (TK key) → (∀ b ∈ acc, b.2 < n) →
  ∃ s : List (α × Nat), s.Pairwise (TK key) ∧ s.Perm (acc ++ l.zipIdx n) ∧ s.map (·.1) = l.foldl (fun acc a => insK key a acc) (acc.map (·.1))
 | [], n, acc, h, _ => ⟨acc, h, by simp, rfl⟩
 | a :: l, n, acc, h, ht => by
  obtain ⟨s, h1, h2, h3⟩ := foldK_sorted l (n + 1) (insKT key (a, n) acc) (insKT_sorted _ _ h ht) (fun b hb => by
   rcases List.mem_cons.1 ((insKT_perm key (a, n) acc).subset hb) with rfl | hb
   ·exact Nat.lt_succ_self _
   ·exact Nat.lt_succ_of_lt (ht b hb))
  refine ⟨s, h1, h2.trans ?_, by rw [h3, insKT_map]; rfl⟩
  rw [List.zipIdx_cons]
  exact ((insKT_perm key (a, n) acc).append_right _).trans (List.perm_middle (l₁ := acc)).symm
def tagK (l : List α) : Array (α × Nat) := (l.zipIdx).toArray
theorem tagK_size (l : List α) : (tagK l).size = l.length := by simp [tagK]
theorem tagK_at [Inhabited α] {l : List α} {i : Nat} {a : α} (h : l[i]? = some a) : (tagK l)[i]! = (a, i) := by
 have hi := (List.getElem?_eq_some_iff.1 h).1
 rw [getElem!_pos _ _ (by simpa [tagK] using hi)]
 simp [tagK, (List.getElem?_eq_some_iff.1 h).2]
/-- the tagged elements in ascending order are one list -/
theorem sortedK_eq [Inhabited α] {lt : α → α → Bool} (hlt : ∀ x y, lt x y = decide (key x < key y)) {l : List α} {r : Array (α × Nat)} (hp : PermIn 0 l.length (tagK l) r) (ht : TS lt 0 l.length r) : r.toList.map (·.1) = sortK key l := by
 obtain ⟨s, h1, h2, h3⟩ := foldK_sorted (key := key) l 0 [] List.Pairwise.nil (fun b hb => by cases hb)
 obtain ⟨hs, _, hq⟩ := hp
 rw [tagK_size] at hs
 have e1 : (r.extract 0 l.length).toList = r.toList := by simp [← hs]
 have e2 : ((tagK l).extract 0 l.length).toList = l.zipIdx := by
  simp only [tagK, List.extract_toArray, List.extract_eq_take_drop, List.drop_zero, Nat.sub_zero]
  exact List.take_of_length_le (by simp)
 rw [e1, e2] at hq
 have tk_of : ∀ {x y : α × Nat}, TL lt x y → TK key x y := fun {x y} h => by
  unfold TL at h
  rw [hlt, hlt] at h
  simp at h
  unfold TK
  omega
 have hr : r.toList.Pairwise (TK key) := by
  rw [List.pairwise_iff_getElem]
  intro i j hi hj hij
  have hj' : j < r.size := by simpa using hj
  have hi' : i < r.size := by simpa using hi
  have := ht i j (Nat.zero_le _) hij (by omega)
  rw [getElem!_pos r i hi', getElem!_pos r j hj'] at this
  simpa using tk_of this
 have : r.toList = s := by
  refine List.Perm.eq_of_pairwise (le := TK key) (fun a b _ _ g1 g2 => ?_) hr h1 (hq.trans (by simpa using h2.symm))
  unfold TK at g1 g2
  omega
 rw [this, h3]
 rfl
theorem swoK {lt : α → α → Bool} (hlt : ∀ x y, lt x y = decide (key x < key y)) : SWO lt := by
 refine ⟨fun x => by rw [hlt]; simp, fun x y z h1 h2 => ?_, fun x y z h1 h2 => ?_⟩ <;> rw [hlt] at * <;> simp at * <;> omega
end
end Go.Proofs.YtehlbomkldnalaaGreat
