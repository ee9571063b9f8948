/- Parts of the proofs of this seat: StabInt. Each part says what it proves; no condition beyond those stated there. -/
import Derived.Test.YtpeokpnjnmgloaaProg
import Derived.WalkKit
import Derived.Shelf.SlSortCmp.Kit1
import Derived.Test.YtpeokpnjnmgloaaM1
import Derived.Test.YtpeokpnjnmgloaaM16

/- The library's stable sort of int: the walks, over whatever program bears its texts. The exchange and the insertion after the kit's slices.insertionSortCmpFunc at structs. -/
namespace Go.Proofs.Ytpeokpnjnmgloaa
open Go Go.Sort Go.RowKit Go.Lib Go.Shelf Go.Proofs
namespace StabInt
/-- what the walks ask of the program -/
structure Lay (P : Program) : Prop where
  mixed : P.follows .mixedOrders = true
  fIns : P.funcs[72]? = some Try.f72
  fSwr : P.funcs[84]? = some Try.f84
  fRot : P.funcs[82]? = some Try.f82
  fSym : P.funcs[73]? = some Try.f73
  fStb : P.funcs[54]? = some Try.f54
  fTop : P.funcs[41]? = some Try.f41
  eIns : ∀ args w, (callFunc 72 args).run P w = .ok (.enter 72 args) w
  eSwr : ∀ args w, (callFunc 84 args).run P w = .ok (.enter 84 args) w
  eRot : ∀ args w, (callFunc 82 args).run P w = .ok (.enter 82 args) w
  eSym : ∀ args w, (callFunc 73 args).run P w = .ok (.enter 73 args) w
  eStb : ∀ args w, (callFunc 54 args).run P w = .ok (.enter 54 args) w
  tS : P.underlying 71 = some (.slice 3)
  aS : ∀ w, (isAgg 71).run P w = .ok false w
  zS : ∀ w, (Go.sizeOf 71).run P w = .ok 1 w
  vS : ∀ w, (zeroValue 71).run P w = .ok (.slice none 0 0) w
  t3 : P.underlying 3 = some (.int .i64)
  a3 : ∀ w, (isAgg 3).run P w = .ok false w
  z3 : ∀ w, (Go.sizeOf 3).run P w = .ok 1 w
  v3 : ∀ w, (zeroValue 3).run P w = .ok (.int .i64 0) w
  t4 : P.underlying 4 = some .bool
  a4 : ∀ w, (isAgg 4).run P w = .ok false w
  z4 : ∀ w, (Go.sizeOf 4).run P w = .ok 1 w
  v4 : ∀ w, (zeroValue 4).run P w = .ok (.bool false) w
  tU : P.underlying 41 = some (.int .u64)
  aU : ∀ w, (isAgg 41).run P w = .ok false w
  zU : ∀ w, (Go.sizeOf 41).run P w = .ok 1 w
  vU : ∀ w, (zeroValue 41).run P w = .ok (.int .u64 0) w
variable {P : Program} {β : Type} [Inhabited β]
/-- what 'cmp' is asked: in every world that the sort passes through it answers, draws and lays blocks, and turns nothing -/
def Cmp (P : Program) (g : Nat) (cb : Array Value) (enc : β → Value) (cf : β → β → Int) (blk off size : Nat) (w : World) : Prop := CmpLays1 P g cb enc cf blk off size w
def SW (enc : β → Value) (w : World) (blk off m : Nat) (d : Array β) (os : Array Obj) : World := sortWorld enc w blk off m d os
theorem holds_sw_c (enc : β → Value) (w : World) (blk off : Nat) (d dk : Array β) (m : Nat) (os : Array Obj) (hH : Holds enc w blk off d) (hblk : blk < w.heap.size) (hs : dk.size = d.size) : Holds enc (sortWorld enc w blk off m dk os) blk off dk := holds_sortWorld enc w blk off m d dk os hblk hH hs
theorem size_sw_c (enc : β → Value) (w : World) (blk off m : Nat) (dk : Array β) (os : Array Obj) : w.heap.size ≤ (sortWorld enc w blk off m dk os).heap.size := Go.Proofs.SW.le (off := off) ⟨m, os, rfl⟩
theorem swp1_c (enc : β → Value) (w : World) (blk off m : Nat) (dk : Array β) (os : Array Obj) (hblk : blk < w.heap.size) (i j : Nat) (hi : i < dk.size) (hj : j < dk.size) :
    (((SW enc w blk off m dk os).setCell ⟨blk, off + i, none⟩ (enc dk[j]!)).setCell ⟨blk, off + j, none⟩ (enc dk[i]!)).drew = SW enc w blk off (m + 1) (swp dk i j) os := by
  have e : ((SW enc w blk off m dk os).setCell ⟨blk, off + i, none⟩ (enc dk[j]!)).setCell ⟨blk, off + j, none⟩ (enc dk[i]!) = SW enc w blk off m (swp dk i j) os := by
    unfold SW sortWorld
    rw [← putRow_grow enc (Sort.ahead w m) os blk off dk hblk, putRow_swp enc _ blk off dk i j hi hj, putRow_grow enc (Sort.ahead w m) os blk off _ hblk]
  rw [e]
  have := sortWorld_grown_c enc w blk off m 1 (swp dk i j) os #[]
  rw [grow_empty, Array.append_empty] at this
  exact this
/-- a world of the sort's over a world of the sort's -/
theorem SW_again (enc : β → Value) (w : World) (blk off q m : Nat) (dk d : Array β) (os os' : Array Obj) (hblk : blk < w.heap.size) (hs : d.size = dk.size) : SW enc (SW enc w blk off q dk os) blk off m d os' = SW enc w blk off (q + m) d (os ++ os') := by
  unfold SW sortWorld
  exact grow_step_grow enc w os os' q m blk off dk d hblk hs
section
variable (L : Lay P) (enc : β → Value) (hk : OneCell enc)
include L hk
set_option maxHeartbeats 4000000 in
set_option maxRecDepth 1000000 in
theorem swapRange_any (cmp : Value) (blk off cap a b n : Nat) (d : Array β) (w : World) (hH : Holds enc w blk off d) (hblk : blk < w.heap.size) (han : a + n ≤ d.size) (hbn : b + n ≤ d.size) (hsz : d.size < 4611686018427387904) :
    Calls P 84 #[.slice (some ⟨blk, off, none⟩) d.size cap, .int .i64 a, .int .i64 b, .int .i64 n, cmp] w fun e w' =>
      e = .returned (.tuple #[]) ∧ ∃ m os, w' = SW enc w blk off m (swr d a b n) os := by
  have mixed := L.mixed; have tS := L.tS; have aS := L.aS; have zS := L.zS; have vS := L.vS; have t3 := L.t3; have a3 := L.a3; have z3 := L.z3; have v3 := L.v3; have t4 := L.t4; have a4 := L.a4; have z4 := L.z4; have v4 := L.v4; have tU := L.tU; have aU := L.aU; have zU := L.zU; have vU := L.vU
  have uS := run_underlying L.tS
  have eIns := L.eIns; have eSwr := L.eSwr; have eRot := L.eRot; have eSym := L.eSym; have eStb := L.eStb
  have HST : Hid (w = SW enc w blk off 0 d #[]) := by show w = _; unfold SW sortWorld; rw [grow_empty]; exact (putRow_self enc w blk off d hH).symm
  have HH : Hid (Holds enc w blk off d) := hH
  have HK : Hid (OneCell enc) := hk
  clear hH hk
  go_enter L.fSwr, Try.ntmps84
  go_wp2
  go_loopg [10] n (fun g vi wr => ∃ (i m : Nat) (os : Array Obj), vi = .int .i64 i ∧ i ≤ n ∧ n - i ≤ g ∧ wr = SW enc w blk off m (swr d a b i) os)
  case atStart => exact ⟨0, 0, #[], rfl, by omega, by omega, HST.out⟩
  case round =>
    obtain ⟨i, m, os, rfl, hi, hg, hwr⟩ := hrel
    by_cases hlt : i < n
    · have hS : (swr d a b i).size = d.size := swr_size d a b i
      have HNX : Hid (swp (swr d a b i) (a + i) (b + i) = swr d a b (i + 1)) := rfl
      generalize swr d a b i = dk at *
      have HQ : Hid (wr = SW enc w blk off m dk os) := hwr
      clear hwr
      generalize wr = wq at *
      have x1 : IntKind.i64.wrap ((a : Int) + (i : Int)) = (a : Int) + (i : Int) := IntWalk.i64_in _ (by omega)
      have x2 : IntKind.i64.wrap ((b : Int) + (i : Int)) = (b : Int) + (i : Int) := IntWalk.i64_in _ (by omega)
      have y1 : ((a : Int) + (i : Int)).toNat = a + i := by omega
      have y2 : ((b : Int) + (i : Int)).toNat = b + i := by omega
      have z1 : (0 : Int) ≤ (a : Int) + (i : Int) := by omega
      have z2 : (0 : Int) ≤ (b : Int) + (i : Int) := by omega
      have z5 : (a : Int) + (i : Int) < (d.size : Int) := by omega
      have z6 : (b : Int) + (i : Int) < (d.size : Int) := by omega
      have S0 : Go.Proofs.SW enc w blk off dk wq := ⟨_, _, HQ.out⟩
      have R0 : Row1 enc w blk off d := ⟨HK.out, HH.out, hblk⟩
      have hcl0 := HK.out.cells
      simp only [Value.cells] at hcl0
      have hst := HK.out.store P
      obtain ⟨i1, hi1⟩ : ∃ i1, i1 = a + i := ⟨_, rfl⟩; obtain ⟨j1, hj1⟩ : ∃ j1, j1 = b + i := ⟨_, rfl⟩; rw [← hi1] at y1; rw [← hj1] at y2
      have hI : i1 < dk.size := by omega
      have hJ : j1 < dk.size := by omega
      have cI := S0.c1 R0 hS i1 hI
      have cJ := S0.c1 R0 hS j1 hJ
      have fI := S0.f1 R0 hS i1 hI
      have fJ := S0.f1 R0 hS j1 hJ
      obtain ⟨x1, hx1⟩ : ∃ x, x = dk[i1]! := ⟨_, rfl⟩
      obtain ⟨x2, hx2⟩ : ∃ x, x = dk[j1]! := ⟨_, rfl⟩
      obtain ⟨u2, cU⟩ := S0.c2 R0 hS i1 j1 hI hJ (enc x2)
      rw [← hx1] at cI
      rw [← hx2] at cJ
      have CC : Hid (x1 = dk[i1]! ∧ x2 = dk[j1]!) := ⟨hx1, hx2⟩
      have NI := hide hi1; have NJ := hide hj1; clear hi1 hj1
      clear S0 R0 hx1 hx2
      go_wp2_with fail
      go_big_region_o
      all_goals go_wp2
      go_roundg (n - (i + 1))
      case measure => omega
      case rel =>
        refine ⟨i + 1, m + 1, os, by go_num, by omega, Nat.le_refl _, ?_⟩
        rw [← HNX.out, ← NI.out, ← NJ.out, CC.out.1, CC.out.2, HQ.out]
        exact swp1_c enc w blk off m dk os hblk i1 j1 hI hJ
    · have hltz : ¬ (i : Int) < (n : Int) := by omega
      obtain rfl : i = n := by omega
      go_wp2
      go_end0
      exact ⟨rfl, m, os, rfl⟩
set_option maxHeartbeats 4000000 in
set_option maxRecDepth 1000000 in
theorem rotate_any (cmp : Value) (blk off cap a m b : Nat) (d : Array β) (w : World) (hH : Holds enc w blk off d) (hblk : blk < w.heap.size) (ham : a < m) (hmb : m < b) (hb : b ≤ d.size) (hsz : d.size < 4611686018427387904) :
    Calls P 82 #[.slice (some ⟨blk, off, none⟩) d.size cap, .int .i64 a, .int .i64 m, .int .i64 b, cmp] w fun e w' =>
      e = .returned (.tuple #[]) ∧ ∃ q os r, w' = SW enc w blk off q r os ∧ PermIn a b d r ∧ ∀ x, r[x]! = rotV d a m b x := by
  have mixed := L.mixed; have tS := L.tS; have aS := L.aS; have zS := L.zS; have vS := L.vS; have t3 := L.t3; have a3 := L.a3; have z3 := L.z3; have v3 := L.v3; have t4 := L.t4; have a4 := L.a4; have z4 := L.z4; have v4 := L.v4; have tU := L.tU; have aU := L.aU; have zU := L.zU; have vU := L.vU
  have uS := run_underlying L.tS
  have eIns := L.eIns; have eSwr := L.eSwr; have eRot := L.eRot; have eSym := L.eSym; have eStb := L.eStb
  have HST : Hid (w = SW enc w blk off 0 d #[]) := by show w = _; unfold SW sortWorld; rw [grow_empty]; exact (putRow_self enc w blk off d hH).symm
  have HH : Hid (Holds enc w blk off d) := hH
  have HK : Hid (OneCell enc) := hk
  have hR0 : ∀ x, rotV d (m - (m - a)) m (m + (b - m)) x = rotV d a m b x := fun x => by rw [show m - (m - a) = a by omega, show m + (b - m) = b by omega]
  have HR0 := hide hR0
  clear hH hk hR0
  go_enter L.fRot, Try.ntmps82
  go_wp2
  go_loopg [10, 11] b (fun g vi vj wr => ∃ (i j q : Nat) (os : Array Obj) (dk : Array β), vi = .int .i64 i ∧ vj = .int .i64 j ∧ 0 < i ∧ 0 < j ∧ i ≤ m - a ∧ j ≤ b - m ∧ i + j ≤ g ∧ wr = SW enc w blk off q dk os ∧ PermIn a b d dk ∧ Hid (∀ x, rotV dk (m - i) m (m + j) x = rotV d a m b x))
  case atStart => exact ⟨m - a, b - m, 0, #[], d, by go_num, by go_num, by omega, by omega, by omega, by omega, by omega, HST.out, permIn_refl d a b, HR0.out⟩
  case round =>
    obtain ⟨i, j, q, os, dk, rfl, rfl, hi0, hj0, hi, hj, hg, hwr, hp, hR⟩ := hrel
    have hS : dk.size = d.size := hp.1
    have HP : Hid (PermIn a b d dk) := hp
    clear hp
    have HQ : Hid (wr = SW enc w blk off q dk os) := hwr
    clear hwr
    have hHd : Holds enc wr blk off dk := by rw [HQ.out]; exact holds_sw_c enc w blk off d dk _ _ HH.out hblk hS
    have hbw : blk < wr.heap.size := by rw [HQ.out]; exact Nat.lt_of_lt_of_le hblk (size_sw_c enc w blk off q dk os)
    have HHd := hide hHd
    clear hHd
    have again : ∀ (m' : Nat) (d' : Array β) (os' : Array Obj), d'.size = dk.size → SW enc wr blk off m' d' os' = SW enc w blk off (q + m') d' (os ++ os') := fun m' d' os' hs => by rw [HQ.out]; exact SW_again enc w blk off q m' dk d' os os' hblk hs
    have AG := hide again
    clear again
    rcases Nat.lt_trichotomy i j with hij | rfl | hij
    · have C := swapRange_any L enc HK.out cmp blk off cap (m - i) (m + j - i) i dk wr HHd.out hbw (by omega) (by omega) (by omega)
      rw [show ((m - i : Nat) : Int) = (m : Int) - (i : Int) by omega, show ((m + j - i : Nat) : Int) = (m : Int) + (j : Int) - (i : Int) by omega, hS] at C
      have hne : ((i : Int) == (j : Int)) = false := by simp; omega
      go_wp2_with fail
      refine C.mono ?_
      rintro e w2 ⟨rfl, q2, os2, hw2⟩
      rw [AG.out _ _ _ (swr_size ..)] at hw2
      have HW2 := hide hw2
      clear hw2 C
      go_wp2
      go_roundg (i + (j - i))
      case measure => omega
      case rel => exact ⟨i, j - i, _, _, _, rfl, by go_num, hi0, by omega, hi, by omega, Nat.le_refl _, HW2.out, permIn_trans _ _ _ _ _ HP.out (swr_perm dk (m - i) (m + j - i) a b (by omega) (by omega) i (by omega) (by omega) (by omega)), fun x => by rw [rot_right dk hij (by omega) (by omega) x]; exact hR.out x⟩
    · have C := swapRange_any L enc HK.out cmp blk off cap (m - i) m i dk wr HHd.out hbw (by omega) (by omega) (by omega)
      rw [show ((m - i : Nat) : Int) = (m : Int) - (i : Int) by omega, hS] at C
      go_wp2_with fail
      refine C.mono ?_
      rintro e w2 ⟨rfl, q2, os2, hw2⟩
      rw [AG.out _ _ _ (swr_size ..)] at hw2
      have HW2 := hide hw2
      clear hw2 C
      go_wp2
      go_end0
      exact ⟨rfl, _, _, _, HW2.out, permIn_trans _ _ _ _ _ HP.out (swr_perm dk (m - i) m a b (by omega) (by omega) i (by omega) (by omega) (by omega)), fun x => by rw [rot_same dk (by omega) (by omega) x]; exact hR.out x⟩
    · have C := swapRange_any L enc HK.out cmp blk off cap (m - i) m j dk wr HHd.out hbw (by omega) (by omega) (by omega)
      rw [show ((m - i : Nat) : Int) = (m : Int) - (i : Int) by omega, hS] at C
      have hne : ((i : Int) == (j : Int)) = false := by simp; omega
      go_wp2_with fail
      refine C.mono ?_
      rintro e w2 ⟨rfl, q2, os2, hw2⟩
      rw [AG.out _ _ _ (swr_size ..)] at hw2
      have HW2 := hide hw2
      clear hw2 C
      go_wp2
      go_roundg (i - j + j)
      case measure => omega
      case rel => exact ⟨i - j, j, _, _, _, by go_num, rfl, by omega, hj0, by omega, hj, Nat.le_refl _, HW2.out, permIn_trans _ _ _ _ _ HP.out (swr_perm dk (m - i) m a b (by omega) (by omega) j (by omega) (by omega) (by omega)), fun x => by rw [rot_left dk hij (by omega) (by omega) x]; exact hR.out x⟩
set_option maxHeartbeats 4000000 in
set_option maxRecDepth 1000000 in
theorem symLeft_any (cf : β → β → Int) (g : Nat) (cb : Array Value) (blk off cap a m b : Nat) (d : Array β) (w : World)
    (eg : ∀ args w, (callFunc g args).run P w = .ok (.enter g args) w) (hcmp : Cmp P g cb enc cf blk off d.size w) (hH : Holds enc w blk off d) (hblk : blk < w.heap.size) (ham : m = a + 1) (hmb : m ≤ b) (hb : b ≤ d.size) (hsz : d.size < 4611686018427387904)
    (hmono : ∀ s t, m ≤ s → s ≤ t → t < b → cf d[t]! d[a]! < 0 → cf d[s]! d[a]! < 0) :
    Calls P 73 #[.slice (some ⟨blk, off, none⟩) d.size cap, .int .i64 a, .int .i64 m, .int .i64 b, .func (.func g) #[] cb] w fun e w' =>
      e = .returned (.tuple #[]) ∧ ∃ q os i, w' = SW enc w blk off q (fwd d a (i - 1 - a)) os ∧ m ≤ i ∧ i ≤ b ∧ (∀ t, m ≤ t → t < i → cf d[t]! d[a]! < 0) ∧ (∀ t, i ≤ t → t < b → 0 ≤ cf d[t]! d[a]!) := by
  have mixed := L.mixed; have tS := L.tS; have aS := L.aS; have zS := L.zS; have vS := L.vS; have t3 := L.t3; have a3 := L.a3; have z3 := L.z3; have v3 := L.v3; have t4 := L.t4; have a4 := L.a4; have z4 := L.z4; have v4 := L.v4; have tU := L.tU; have aU := L.aU; have zU := L.zU; have vU := L.vU
  have uS := run_underlying L.tS
  have eIns := L.eIns; have eSwr := L.eSwr; have eRot := L.eRot; have eSym := L.eSym; have eStb := L.eStb
  have HC : Aside _ := hcmp
  have HM := hide hmono
  have HST : Hid (w = SW enc w blk off 0 d #[]) := by show w = _; unfold SW sortWorld; rw [grow_empty]; exact (putRow_self enc w blk off d hH).symm
  have HH : Hid (Holds enc w blk off d) := hH
  have HK : Hid (OneCell enc) := hk
  clear hH hk hcmp hmono
  have hm1 : (((m : Int) - (a : Int)) == 1) = true := by simp; omega
  have HAM := hide ham
  have ham' : a < m := by omega
  clear ham
  go_enter L.fSym, Try.ntmps73
  go_wp2
  go_loopg [10, 11] (b - a) (fun g1 vi vj wr => ∃ (i j q : Nat) (os : Array Obj), vi = .int .i64 i ∧ vj = .int .i64 j ∧ m ≤ i ∧ i ≤ j ∧ j ≤ b ∧ j - i ≤ g1 ∧ wr = SW enc w blk off q d os ∧ Hid (∀ t, m ≤ t → t < i → cf d[t]! d[a]! < 0) ∧ Hid (∀ t, j ≤ t → t < b → 0 ≤ cf d[t]! d[a]!))
  case atStart => exact ⟨m, b, 0, #[], rfl, rfl, by omega, by omega, by omega, by omega, HST.out, hide fun t h h' => by omega, hide fun t h h' => by omega⟩
  case round =>
    obtain ⟨i, j, q, os, rfl, rfl, hi, hij, hj, hg1, hwr, HLO, HHI⟩ := hrel
    obtain ⟨dk, hdk⟩ : ∃ dk, dk = d := ⟨d, rfl⟩
    have hS : dk.size = d.size := by rw [hdk]
    have HQ : Hid (wr = SW enc w blk off q dk os) := by show _ = _; rw [hdk]; exact hwr
    have HD := hide hdk
    clear hwr hdk
    generalize wr = wq at *
    by_cases hlt : i < j
    · obtain ⟨h, hh⟩ : ∃ h, h = (i + j) / 2 := ⟨_, rfl⟩
      have h2 : i ≤ h ∧ h < j := by omega
      have x1 : ((i : Int) + (j : Int)) / 2 = (h : Int) := by omega
      have HH2 := hide hh
      clear hh
      have z5 : (h : Int) < (d.size : Int) := by omega
      have z6 : (a : Int) < (d.size : Int) := by omega
      have S0 : Go.Proofs.SW enc w blk off dk wq := ⟨_, _, HQ.out⟩
      have R0 : Row1 enc w blk off d := ⟨HK.out, HH.out, hblk⟩
      have hcl0 := HK.out.cells
      simp only [Value.cells] at hcl0
      have hst := HK.out.store P
      have l1 := S0.cl R0 hS h (by omega)
      have l2 := S0.cl R0 hS a (by omega)
      have hcg := S0.cmp HC.out hS dk[h]! dk[a]!
      have CLS : Hid (∀ n' os', grow (wq.drewN n') os' = SW enc w blk off (q + n') dk (os ++ os')) := fun n' os' => by rw [HQ.out]; exact sortWorld_grown_c enc w blk off q n' dk os os'
      clear S0 R0
      by_cases hlv : cf dk[h]! dk[a]! < 0
      · go_wp2_with fail
        go_quiet_grown (first | (go_at_fn g; refine Calls.grown_of (hcg _ _)))
        go_wp2
        have hlv' : cf d[h]! d[a]! < 0 := by rw [← HD.out]; exact hlv
        go_roundg (j - (h + 1))
        case measure => omega
        case rel => exact ⟨h + 1, j, q + nq, os ++ osq, by go_num, rfl, by omega, by omega, hj, Nat.le_refl _, by rw [CLS.out, HD.out], hide fun t h3 h4 => HM.out t h h3 (by omega) (by omega) hlv', HHI⟩
      · go_wp2_with fail
        go_quiet_grown (first | (go_at_fn g; refine Calls.grown_of (hcg _ _)))
        go_wp2
        have hlv' : ¬ cf d[h]! d[a]! < 0 := by have e := hlv; rw [HD.out] at e; omega
        go_roundg (h - i)
        case measure => omega
        case rel => exact ⟨i, h, q + nq, os ++ osq, rfl, rfl, hi, by omega, by omega, Nat.le_refl _, by rw [CLS.out, HD.out], HLO, hide fun t h3 h4 => Int.not_lt.1 fun hc => hlv' (HM.out h t (by omega) h3 h4 hc)⟩
    · obtain rfl : i = j := by omega
      go_wp2
      go_loopg [13] (i - 1 - a) (fun g2 vk wr2 => ∃ (n q : Nat) (os : Array Obj), vk = .int .i64 ((a + n : Nat) : Int) ∧ n ≤ i - 1 - a ∧ i - 1 - a - n ≤ g2 ∧ wr2 = SW enc w blk off q (fwd d a n) os)
      case atStart => exact ⟨0, q, os, by go_num, by omega, by omega, by rw [HQ.out, HD.out]; rfl⟩
      case round =>
        clear HQ HD hS
        obtain ⟨n, q2, os2, rfl, hn, hg2, hwr⟩ := hrel
        by_cases hlt2 : n < i - 1 - a
        · have hS : (fwd d a n).size = d.size := fwd_size d a n
          have HNX : Hid (swp (fwd d a n) (a + n) (a + n + 1) = fwd d a (n + 1)) := rfl
          generalize fwd d a n = dk at *
          have HQ : Hid (wr = SW enc w blk off q2 dk os2) := hwr
          clear hwr
          generalize wr = wq at *
          generalize hp : a + n = p at *
          have x1 : IntKind.i64.wrap ((p : Int) + 1) = (p : Int) + 1 := IntWalk.i64_in _ (by omega)
          have y1 : ((p : Int) + 1).toNat = p + 1 := by omega
          have z1 : (0 : Int) ≤ (p : Int) + 1 := by omega
          have z5 : (p : Int) + 1 < (d.size : Int) := by omega
          have z6 : (p : Int) < (d.size : Int) := by omega
          have S0 : Go.Proofs.SW enc w blk off dk wq := ⟨_, _, HQ.out⟩
          have R0 : Row1 enc w blk off d := ⟨HK.out, HH.out, hblk⟩
          have hcl0 := HK.out.cells
          simp only [Value.cells] at hcl0
          have hst := HK.out.store P
          obtain ⟨j1, hj1⟩ : ∃ j1, j1 = p + 1 := ⟨_, rfl⟩; rw [← hj1] at y1
          have hI : p < dk.size := by omega
          have hJ : j1 < dk.size := by omega
          have cI := S0.c1 R0 hS p hI
          have cJ := S0.c1 R0 hS j1 hJ
          have fI := S0.f1 R0 hS p hI
          have fJ := S0.f1 R0 hS j1 hJ
          obtain ⟨x1, hx1⟩ : ∃ x, x = dk[p]! := ⟨_, rfl⟩
          obtain ⟨x2, hx2⟩ : ∃ x, x = dk[j1]! := ⟨_, rfl⟩
          obtain ⟨u2, cU⟩ := S0.c2 R0 hS p j1 hI hJ (enc x2)
          rw [← hx1] at cI
          rw [← hx2] at cJ
          have CC : Hid (x1 = dk[p]! ∧ x2 = dk[j1]!) := ⟨hx1, hx2⟩
          have NJ := hide hj1; clear hj1
          clear S0 R0 hx1 hx2
          go_wp2_with fail
          go_big_region_o
          all_goals go_wp2
          go_roundg (i - 1 - a - (n + 1))
          case measure => omega
          case rel =>
            refine ⟨n + 1, q2 + 1, os2, by go_num, by omega, Nat.le_refl _, ?_⟩
            rw [← HNX.out, ← NJ.out, CC.out.1, CC.out.2, HQ.out]
            exact swp1_c enc w blk off q2 dk os2 hblk p j1 hI hJ
        · obtain rfl : n = i - 1 - a := by omega
          rw [show ((a + (i - 1 - a) : Nat) : Int) = (i : Int) - 1 by omega]
          go_wp2
          exact bodyPost_ret (v := .tuple #[]) (results_none rfl _ _ _) rfl ⟨rfl, q2, os2, i, rfl, hi, hj, HLO.out, HHI.out⟩
set_option maxHeartbeats 4000000 in
set_option maxRecDepth 1000000 in
theorem symRight_any (cf : β → β → Int) (g : Nat) (cb : Array Value) (blk off cap a m b : Nat) (d : Array β) (w : World)
    (eg : ∀ args w, (callFunc g args).run P w = .ok (.enter g args) w) (hcmp : Cmp P g cb enc cf blk off d.size w) (hH : Holds enc w blk off d) (hblk : blk < w.heap.size) (ham : a + 1 < m) (hmb : b = m + 1) (hb : b ≤ d.size) (hsz : d.size < 4611686018427387904)
    (hmono : ∀ s t, a ≤ s → s ≤ t → t < m → cf d[m]! d[s]! < 0 → cf d[m]! d[t]! < 0) :
    Calls P 73 #[.slice (some ⟨blk, off, none⟩) d.size cap, .int .i64 a, .int .i64 m, .int .i64 b, .func (.func g) #[] cb] w fun e w' =>
      e = .returned (.tuple #[]) ∧ ∃ q os i, w' = SW enc w blk off q (bwd d m (m - i)) os ∧ a ≤ i ∧ i ≤ m ∧ (∀ t, a ≤ t → t < i → 0 ≤ cf d[m]! d[t]!) ∧ (∀ t, i ≤ t → t < m → cf d[m]! d[t]! < 0) := by
  have mixed := L.mixed; have tS := L.tS; have aS := L.aS; have zS := L.zS; have vS := L.vS; have t3 := L.t3; have a3 := L.a3; have z3 := L.z3; have v3 := L.v3; have t4 := L.t4; have a4 := L.a4; have z4 := L.z4; have v4 := L.v4; have tU := L.tU; have aU := L.aU; have zU := L.zU; have vU := L.vU
  have uS := run_underlying L.tS
  have eIns := L.eIns; have eSwr := L.eSwr; have eRot := L.eRot; have eSym := L.eSym; have eStb := L.eStb
  have HC : Aside _ := hcmp
  have HM := hide hmono
  have HST : Hid (w = SW enc w blk off 0 d #[]) := by show w = _; unfold SW sortWorld; rw [grow_empty]; exact (putRow_self enc w blk off d hH).symm
  have HH : Hid (Holds enc w blk off d) := hH
  have HK : Hid (OneCell enc) := hk
  clear hH hk hcmp hmono
  have hm1 : (((m : Int) - (a : Int)) == 1) = false := by simp; omega
  have hm2 : (((b : Int) - (m : Int)) == 1) = true := by simp; omega
  have hmb' : m < b := by omega
  have HMB := hide hmb
  clear hmb
  go_enter L.fSym, Try.ntmps73
  go_wp2
  go_loopg [14, 15] (b - a) (fun g1 vi vj wr => ∃ (i j q : Nat) (os : Array Obj), vi = .int .i64 i ∧ vj = .int .i64 j ∧ a ≤ i ∧ i ≤ j ∧ j ≤ m ∧ j - i ≤ g1 ∧ wr = SW enc w blk off q d os ∧ Hid (∀ t, a ≤ t → t < i → 0 ≤ cf d[m]! d[t]!) ∧ Hid (∀ t, j ≤ t → t < m → cf d[m]! d[t]! < 0))
  case atStart => exact ⟨a, m, 0, #[], rfl, rfl, by omega, by omega, by omega, by omega, HST.out, hide fun t h h' => by omega, hide fun t h h' => by omega⟩
  case round =>
    obtain ⟨i, j, q, os, rfl, rfl, hi, hij, hj, hg1, hwr, HLO, HHI⟩ := hrel
    obtain ⟨dk, hdk⟩ : ∃ dk, dk = d := ⟨d, rfl⟩
    have hS : dk.size = d.size := by rw [hdk]
    have HQ : Hid (wr = SW enc w blk off q dk os) := by show _ = _; rw [hdk]; exact hwr
    have HD := hide hdk
    clear hwr hdk
    generalize wr = wq at *
    by_cases hlt : i < j
    · obtain ⟨h, hh⟩ : ∃ h, h = (i + j) / 2 := ⟨_, rfl⟩
      have h2 : i ≤ h ∧ h < j := by omega
      have x1 : ((i : Int) + (j : Int)) / 2 = (h : Int) := by omega
      have HH2 := hide hh
      clear hh
      have z5 : (h : Int) < (d.size : Int) := by omega
      have z6 : (m : Int) < (d.size : Int) := by omega
      have S0 : Go.Proofs.SW enc w blk off dk wq := ⟨_, _, HQ.out⟩
      have R0 : Row1 enc w blk off d := ⟨HK.out, HH.out, hblk⟩
      have hcl0 := HK.out.cells
      simp only [Value.cells] at hcl0
      have hst := HK.out.store P
      have l1 := S0.cl R0 hS m (by omega)
      have l2 := S0.cl R0 hS h (by omega)
      have hcg := S0.cmp HC.out hS dk[m]! dk[h]!
      have CLS : Hid (∀ n' os', grow (wq.drewN n') os' = SW enc w blk off (q + n') dk (os ++ os')) := fun n' os' => by rw [HQ.out]; exact sortWorld_grown_c enc w blk off q n' dk os os'
      clear S0 R0
      by_cases hlv : cf dk[m]! dk[h]! < 0
      · have hb1 : decide (0 ≤ cf dk[m]! dk[h]!) = false := by simp; omega
        have hb2 : decide (cf dk[m]! dk[h]! < 0) = true := by simp; omega
        go_wp2_with fail
        go_quiet_grown (first | (go_at_fn g; refine Calls.grown_of (hcg _ _)))
        go_wp2
        have hlv' : cf d[m]! d[h]! < 0 := by rw [← HD.out]; exact hlv
        go_roundg (h - i)
        case measure => omega
        case rel => exact ⟨i, h, q + nq, os ++ osq, rfl, rfl, hi, by omega, by omega, Nat.le_refl _, by rw [CLS.out, HD.out], HLO, hide fun t h3 h4 => HM.out h t (by omega) h3 h4 hlv'⟩
      · have hb1 : decide (0 ≤ cf dk[m]! dk[h]!) = true := by simp; omega
        have hb2 : decide (cf dk[m]! dk[h]! < 0) = false := by simp; omega
        go_wp2_with fail
        go_quiet_grown (first | (go_at_fn g; refine Calls.grown_of (hcg _ _)))
        go_wp2
        have hlv' : ¬ cf d[m]! d[h]! < 0 := by have e := hlv; rw [HD.out] at e; omega
        go_roundg (j - (h + 1))
        case measure => omega
        case rel => exact ⟨h + 1, j, q + nq, os ++ osq, by go_num, rfl, by omega, by omega, hj, Nat.le_refl _, by rw [CLS.out, HD.out], hide fun t h3 h4 => Int.not_lt.1 fun hc => hlv' (HM.out t h h3 (by omega) (by omega) hc), HHI⟩
    · obtain rfl : i = j := by omega
      go_wp2
      go_loopg [17] (m - i) (fun g2 vk wr2 => ∃ (c q : Nat) (os : Array Obj), vk = .int .i64 c ∧ i ≤ c ∧ c ≤ m ∧ c - i ≤ g2 ∧ wr2 = SW enc w blk off q (bwd d m (m - c)) os)
      case atStart => exact ⟨m, q, os, rfl, by omega, by omega, by omega, by rw [HQ.out, HD.out, Nat.sub_self]; rfl⟩
      case round =>
        clear HQ HD hS
        obtain ⟨c, q2, os2, rfl, hc1, hc2, hg2, hwr⟩ := hrel
        by_cases hlt2 : i < c
        · obtain ⟨p, rfl⟩ : ∃ p, c = p + 1 := ⟨c - 1, by omega⟩
          have hS : (bwd d m (m - (p + 1))).size = d.size := bwd_size d m _
          have HNX : Hid (swp (bwd d m (m - (p + 1))) (p + 1) p = bwd d m (m - p)) := bwd_step d hc2
          generalize bwd d m (m - (p + 1)) = dk at *
          have HQ : Hid (wr = SW enc w blk off q2 dk os2) := hwr
          clear hwr
          generalize wr = wq at *
          have x1 : IntKind.i64.wrap (p : Int) = (p : Int) := IntWalk.i64_in _ (by omega)
          have y1 : ((p : Int) + 1).toNat = p + 1 := by omega
          have z1 : (0 : Int) ≤ (p : Int) + 1 := by omega
          have z5 : (p : Int) + 1 < (d.size : Int) := by omega
          have z6 : (p : Int) < (d.size : Int) := by omega
          have S0 : Go.Proofs.SW enc w blk off dk wq := ⟨_, _, HQ.out⟩
          have R0 : Row1 enc w blk off d := ⟨HK.out, HH.out, hblk⟩
          have hcl0 := HK.out.cells
          simp only [Value.cells] at hcl0
          have hst := HK.out.store P
          obtain ⟨i1, hi1⟩ : ∃ i1, i1 = p + 1 := ⟨_, rfl⟩; rw [← hi1] at y1
          have hI : i1 < dk.size := by omega
          have hJ : p < dk.size := by omega
          have cI := S0.c1 R0 hS i1 hI
          have cJ := S0.c1 R0 hS p hJ
          have fI := S0.f1 R0 hS i1 hI
          have fJ := S0.f1 R0 hS p hJ
          obtain ⟨x1, hx1⟩ : ∃ x, x = dk[i1]! := ⟨_, rfl⟩
          obtain ⟨x2, hx2⟩ : ∃ x, x = dk[p]! := ⟨_, rfl⟩
          obtain ⟨u2, cU⟩ := S0.c2 R0 hS i1 p hI hJ (enc x2)
          rw [← hx1] at cI
          rw [← hx2] at cJ
          have CC : Hid (x1 = dk[i1]! ∧ x2 = dk[p]!) := ⟨hx1, hx2⟩
          have NI := hide hi1; clear hi1
          clear S0 R0 hx1 hx2
          go_wp2_with fail
          go_big_region_o
          all_goals go_wp2
          go_roundg (p - i)
          case measure => omega
          case rel =>
            refine ⟨p, q2 + 1, os2, by go_num, by omega, by omega, Nat.le_refl _, ?_⟩
            rw [← HNX.out, ← NI.out, CC.out.1, CC.out.2, HQ.out]
            exact swp1_c enc w blk off q2 dk os2 hblk i1 p hI hJ
        · obtain rfl : c = i := by omega
          go_wp2
          exact bodyPost_ret (v := .tuple #[]) (results_none rfl _ _ _) rfl ⟨rfl, q2, os2, c, rfl, hi, hj, HLO.out, HHI.out⟩
end
end StabInt
end Go.Proofs.Ytpeokpnjnmgloaa
