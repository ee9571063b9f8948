/- Parts of the proofs of this seat: StabBat, StabMBat, StabIBat, StabSBat. Each part says what it proves; no condition beyond those stated there. -/
import Derived.Test.YtkcfalehebacpaaDoorProg
import Derived.WalkKit
import Derived.Shelf.SlSortCmp.InsertionK
import Derived.Test.YtkcfalehebacpaaDoorB1
import Derived.Test.YtkcfalehebacpaaDoorB11

/- The library's stable sort of api.Batch: the walks, over whatever program bears its texts. The exchange and the insertion after the kit's slices.insertionSortCmpFunc at structs. -/
namespace Go.Proofs.YtkcfalehebacpaaDoor
open Go Go.Sort Go.RowKit Go.Lib Go.Shelf Go.Proofs
namespace StabBat
/-- what the walks ask of the program -/
structure Lay (P : Program) (k : Nat) : Prop where
  mixed : P.follows .mixedOrders = true
  fIns : P.funcs[56]? = some Tryd.f56
  fSwr : P.funcs[67]? = some Tryd.f67
  fRot : P.funcs[62]? = some Tryd.f62
  fSym : P.funcs[57]? = some Tryd.f57
  fStb : P.funcs[47]? = some Tryd.f47
  fTop : P.funcs[33]? = some Tryd.f33
  eIns : ∀ args w, (callFunc 56 args).run P w = .ok (.enter 56 args) w
  eSwr : ∀ args w, (callFunc 67 args).run P w = .ok (.enter 67 args) w
  eRot : ∀ args w, (callFunc 62 args).run P w = .ok (.enter 62 args) w
  eSym : ∀ args w, (callFunc 57 args).run P w = .ok (.enter 57 args) w
  eStb : ∀ args w, (callFunc 47 args).run P w = .ok (.enter 47 args) w
  tS : P.underlying 26 = some (.slice 43)
  aS : ∀ w, (isAgg 26).run P w = .ok false w
  zS : ∀ w, (Go.sizeOf 26).run P w = .ok 1 w
  vS : ∀ w, (zeroValue 26).run P w = .ok (.slice none 0 0) w
  t3 : P.underlying 3 = some (.int .i64)
  a3 : ∀ w, (isAgg 3).run P w = .ok false w
  z3 : ∀ w, (Go.sizeOf 3).run P w = .ok 1 w
  v3 : ∀ w, (zeroValue 3).run P w = .ok (.int .i64 0) w
  t4 : P.underlying 4 = some .bool
  a4 : ∀ w, (isAgg 4).run P w = .ok false w
  z4 : ∀ w, (Go.sizeOf 4).run P w = .ok 1 w
  v4 : ∀ w, (zeroValue 4).run P w = .ok (.bool false) w
  tU : P.underlying 58 = some (.int .u64)
  aU : ∀ w, (isAgg 58).run P w = .ok false w
  zU : ∀ w, (Go.sizeOf 58).run P w = .ok 1 w
  vU : ∀ w, (zeroValue 58).run P w = .ok (.int .u64 0) w
  aE : ∀ w, (isAgg 43).run P w = .ok true w
  zE : ∀ w, (Go.sizeOf 43).run P w = .ok k w
variable {P : Program} {β : Type} [Inhabited β]
/-- what 'cmp' is asked: in every world that the sort passes through it answers, draws and lays blocks, and turns nothing -/
def Cmp (P : Program) (g : Nat) (cb : Array Value) (enc : β → List Value) (k : Nat) (cf : β → β → Int) (blk off size : Nat) (w : World) : Prop := CmpLays P g cb enc k cf blk off size w
def SW (enc : β → List Value) (k : Nat) (w : World) (blk off m : Nat) (d : Array β) (os : Array Obj) : World := sortWorldK enc k w blk off m d os
section
variable {enc : β → List Value} {k : Nat} {w : World} {blk off : Nat}
/-- a run of k loads -/
theorem loads (P : Program) (hk : ∀ x, (enc x).length = k) {W : World} {d : Array β} (h : HoldsK enc k W blk off d) {i : Nat} (hi : i < d.size) : Sem.run P (loadCellsFrom ⟨blk, off + i * k, none⟩ 0 k #[]) W = .ok (enc d[i]!).toArray W :=
  run_loadCellsFrom_list P _ _ _ k (hk _) (HoldsK.cells h hk hi)
theorem row_le {β : Type} {d : Array β} (i : Nat) (hi : i < d.size) (k : Nat) : i * k + k ≤ d.size * k := by
  have := Nat.mul_le_mul_right k (show i + 1 ≤ d.size from hi); rwa [Nat.add_mul, Nat.one_mul] at this
/-- the first run of stores of an exchange, and the second one behind it -/
theorem stores1 (P : Program) (hk : ∀ x, (enc x).length = k) (h1 : ∀ x, ∀ v ∈ enc x, v.oneCell' = true) {W : World} {d : Array β} (h : HoldsK enc k W blk off d) {i : Nat} (hi : i < d.size) (y : β) :
    Sem.run P (storeCells ⟨blk, off + i * k, none⟩ (enc y) 0) W = .ok () (W.setCells blk (off + i * k) (enc y)) :=
  stores_of_holds P h (i * k) _ (by rw [hk, size_flatK]; exact row_le i hi k) (h1 _)
theorem stores2 (P : Program) (hk : ∀ x, (enc x).length = k) (h1 : ∀ x, ∀ v ∈ enc x, v.oneCell' = true) {W : World} {d : Array β} (h : HoldsK enc k W blk off d) {i j : Nat} (hi : i < d.size) (hj : j < d.size) (y z : β) :
    Sem.run P (storeCells ⟨blk, off + j * k, none⟩ (enc z) 0) (W.setCells blk (off + i * k) (enc y)) = .ok () ((W.setCells blk (off + i * k) (enc y)).setCells blk (off + j * k) (enc z)) :=
  stores_of_holds P (holds_setCells_c h (i * k) _ (by rw [hk, size_flatK]; exact row_le i hi k)) (j * k) _ (by rw [hk, size_setMany, size_flatK]; exact row_le j hj k) (h1 _)
end
/-- a world of the sort's over a world of the sort's -/
theorem SW_again (enc : β → List Value) (k : Nat) (w : World) (blk off q m : Nat) (dk d : Array β) (os os' : Array Obj) (hblk : blk < w.heap.size) (hs : d.size = dk.size) : SW enc k (SW enc k w blk off q dk os) blk off m d os' = SW enc k w blk off (q + m) d (os ++ os') := by
  unfold SW sortWorldK
  exact grow_step_growK enc k w os os' q m blk off dk d hblk hs
section
variable {k : Nat} (L : Lay P k) (enc : β → List Value) (hk : ∀ x, (enc x).length = k) (h1 : ∀ x, ∀ v ∈ enc x, v.oneCell' = true)
include L hk h1
set_option maxHeartbeats 4000000 in
set_option maxRecDepth 1000000 in
theorem swapRange_any (cmp : Value) (blk off cap a b n : Nat) (d : Array β) (w : World) (hH : HoldsK enc k w blk off d) (hblk : blk < w.heap.size) (han : a + n ≤ d.size) (hbn : b + n ≤ d.size) (hsz : d.size < 4611686018427387904) :
    Calls P 67 #[.slice (some ⟨blk, off, none⟩) d.size cap, .int .i64 a, .int .i64 b, .int .i64 n, cmp] w fun e w' =>
      e = .returned (.tuple #[]) ∧ ∃ m os, w' = SW enc k w blk off m (swr d a b n) os := by
  have mixed := L.mixed; have tS := L.tS; have aS := L.aS; have zS := L.zS; have vS := L.vS; have t3 := L.t3; have a3 := L.a3; have z3 := L.z3; have v3 := L.v3; have t4 := L.t4; have a4 := L.a4; have z4 := L.z4; have v4 := L.v4; have aE := L.aE; have zE := L.zE; have tU := L.tU; have aU := L.aU; have zU := L.zU; have vU := L.vU
  have uS := run_underlying L.tS
  have eIns := L.eIns; have eSwr := L.eSwr; have eRot := L.eRot; have eSym := L.eSym; have eStb := L.eStb
  have HST : Hid (w = SW enc k w blk off 0 d #[]) := by show w = _; unfold SW sortWorldK; rw [grow_empty]; exact (putRowK_self enc k w blk off d hH).symm
  have HH : Hid (HoldsK enc k w blk off d) := hH
  have HK : Hid (∀ x, (enc x).length = k) := hk
  have H1 : Hid (∀ x, ∀ v ∈ enc x, v.oneCell' = true) := h1
  clear hH hk h1
  go_enter L.fSwr, Tryd.ntmps67
  go_wp2
  go_loopg [10] n (fun g vi wr => ∃ (i m : Nat) (os : Array Obj), vi = .int .i64 i ∧ i ≤ n ∧ n - i ≤ g ∧ wr = SW enc k w blk off m (swr d a b i) os)
  case atStart => exact ⟨0, 0, #[], rfl, by omega, by omega, HST.out⟩
  case round =>
    obtain ⟨i, m, os, rfl, hi, hg, hwr⟩ := hrel
    by_cases hlt : i < n
    · have hS : (swr d a b i).size = d.size := swr_size d a b i
      have HNX : Hid (swp (swr d a b i) (a + i) (b + i) = swr d a b (i + 1)) := rfl
      generalize swr d a b i = dk at *
      have HQ : Hid (wr = SW enc k w blk off m dk os) := hwr
      clear hwr
      generalize wr = wq at *
      have x1 : IntKind.i64.wrap ((a : Int) + (i : Int)) = (a : Int) + (i : Int) := IntWalk.i64_in _ (by omega)
      have x2 : IntKind.i64.wrap ((b : Int) + (i : Int)) = (b : Int) + (i : Int) := IntWalk.i64_in _ (by omega)
      have y1 : ((a : Int) + (i : Int)).toNat = a + i := by omega
      have y2 : ((b : Int) + (i : Int)).toNat = b + i := by omega
      have z1 : (0 : Int) ≤ (a : Int) + (i : Int) := by omega
      have z2 : (0 : Int) ≤ (b : Int) + (i : Int) := by omega
      have z5 : (a : Int) + (i : Int) < (d.size : Int) := by omega
      have z6 : (b : Int) + (i : Int) < (d.size : Int) := by omega
      have hHd : HoldsK enc k wq.drew blk off dk := by
        have : HoldsK enc k wq blk off dk := by rw [HQ.out]; exact holdsK_sortWorldK_c enc k w blk off d dk _ _ HH.out hblk hS
        exact this
      have hI : (a + i) < dk.size := (by omega)
      have hJ : (b + i) < dk.size := (by omega)
      have lI := loads P HK.out hHd hI
      have lJ := loads P HK.out hHd hJ
      have s1 := stores1 P HK.out H1.out hHd hI dk[(b + i)]!
      have s2 := stores2 P HK.out H1.out hHd hI hJ dk[(b + i)]! dk[(a + i)]!
      have hl1 : (enc dk[(a + i)]!).length = k := HK.out _
      have hl2 : (enc dk[(b + i)]!).length = k := HK.out _
      obtain ⟨c1, hc1⟩ : ∃ c, c = enc dk[(a + i)]! := ⟨_, rfl⟩
      obtain ⟨c2, hc2⟩ : ∃ c, c = enc dk[(b + i)]! := ⟨_, rfl⟩
      rw [← hc1] at lI hl1
      rw [← hc2] at lJ s1 hl2
      rw [← hc1, ← hc2] at s2
      have CC : Hid (c1 = enc dk[(a + i)]! ∧ c2 = enc dk[(b + i)]!) := ⟨hc1, hc2⟩
      clear hc1 hc2 hHd hI hJ
      go_wp2_with fail
      go_big_region_o
      all_goals go_wp2
      go_roundg (n - (i + 1))
      case measure => omega
      case rel =>
        refine ⟨i + 1, m + 1, os, by go_num, by omega, Nat.le_refl _, ?_⟩
        rw [← HNX.out, CC.out.1, CC.out.2, HQ.out]
        exact sortWorldK_swp_c enc k w blk off HK.out m dk os hblk (a + i) (b + i) (by omega) (by omega)
    · have hltz : ¬ (i : Int) < (n : Int) := by omega
      obtain rfl : i = n := by omega
      go_wp2
      go_end0
      exact ⟨rfl, m, os, rfl⟩
set_option maxHeartbeats 4000000 in
set_option maxRecDepth 1000000 in
theorem rotate_any (cmp : Value) (blk off cap a m b : Nat) (d : Array β) (w : World) (hH : HoldsK enc k w blk off d) (hblk : blk < w.heap.size) (ham : a < m) (hmb : m < b) (hb : b ≤ d.size) (hsz : d.size < 4611686018427387904) :
    Calls P 62 #[.slice (some ⟨blk, off, none⟩) d.size cap, .int .i64 a, .int .i64 m, .int .i64 b, cmp] w fun e w' =>
      e = .returned (.tuple #[]) ∧ ∃ q os r, w' = SW enc k w blk off q r os ∧ PermIn a b d r ∧ ∀ x, r[x]! = rotV d a m b x := by
  have mixed := L.mixed; have tS := L.tS; have aS := L.aS; have zS := L.zS; have vS := L.vS; have t3 := L.t3; have a3 := L.a3; have z3 := L.z3; have v3 := L.v3; have t4 := L.t4; have a4 := L.a4; have z4 := L.z4; have v4 := L.v4; have aE := L.aE; have zE := L.zE; have tU := L.tU; have aU := L.aU; have zU := L.zU; have vU := L.vU
  have uS := run_underlying L.tS
  have eIns := L.eIns; have eSwr := L.eSwr; have eRot := L.eRot; have eSym := L.eSym; have eStb := L.eStb
  have HST : Hid (w = SW enc k w blk off 0 d #[]) := by show w = _; unfold SW sortWorldK; rw [grow_empty]; exact (putRowK_self enc k w blk off d hH).symm
  have HH : Hid (HoldsK enc k w blk off d) := hH
  have HK : Hid (∀ x, (enc x).length = k) := hk
  have H1 : Hid (∀ x, ∀ v ∈ enc x, v.oneCell' = true) := h1
  have hR0 : ∀ x, rotV d (m - (m - a)) m (m + (b - m)) x = rotV d a m b x := fun x => by rw [show m - (m - a) = a by omega, show m + (b - m) = b by omega]
  have HR0 := hide hR0
  clear hH hk h1 hR0
  go_enter L.fRot, Tryd.ntmps62
  go_wp2
  go_loopg [10, 11] b (fun g vi vj wr => ∃ (i j q : Nat) (os : Array Obj) (dk : Array β), vi = .int .i64 i ∧ vj = .int .i64 j ∧ 0 < i ∧ 0 < j ∧ i ≤ m - a ∧ j ≤ b - m ∧ i + j ≤ g ∧ wr = SW enc k w blk off q dk os ∧ PermIn a b d dk ∧ Hid (∀ x, rotV dk (m - i) m (m + j) x = rotV d a m b x))
  case atStart => exact ⟨m - a, b - m, 0, #[], d, by go_num, by go_num, by omega, by omega, by omega, by omega, by omega, HST.out, permIn_refl d a b, HR0.out⟩
  case round =>
    obtain ⟨i, j, q, os, dk, rfl, rfl, hi0, hj0, hi, hj, hg, hwr, hp, hR⟩ := hrel
    have hS : dk.size = d.size := hp.1
    have HP : Hid (PermIn a b d dk) := hp
    clear hp
    have HQ : Hid (wr = SW enc k w blk off q dk os) := hwr
    clear hwr
    have hHd : HoldsK enc k wr blk off dk := by rw [HQ.out]; exact holdsK_sortWorldK_c enc k w blk off d dk _ _ HH.out hblk hS
    have hbw : blk < wr.heap.size := by rw [HQ.out]; exact Nat.lt_of_lt_of_le hblk (size_sortWorldK_c enc k w blk off q dk os)
    have HHd := hide hHd
    clear hHd
    have again : ∀ (m' : Nat) (d' : Array β) (os' : Array Obj), d'.size = dk.size → SW enc k wr blk off m' d' os' = SW enc k w blk off (q + m') d' (os ++ os') := fun m' d' os' hs => by rw [HQ.out]; exact SW_again enc k w blk off q m' dk d' os os' hblk hs
    have AG := hide again
    clear again
    rcases Nat.lt_trichotomy i j with hij | rfl | hij
    · have C := swapRange_any L enc HK.out H1.out cmp blk off cap (m - i) (m + j - i) i dk wr HHd.out hbw (by omega) (by omega) (by omega)
      rw [show ((m - i : Nat) : Int) = (m : Int) - (i : Int) by omega, show ((m + j - i : Nat) : Int) = (m : Int) + (j : Int) - (i : Int) by omega, hS] at C
      have hne : ((i : Int) == (j : Int)) = false := by simp; omega
      go_wp2_with fail
      refine C.mono ?_
      rintro e w2 ⟨rfl, q2, os2, hw2⟩
      rw [AG.out _ _ _ (swr_size ..)] at hw2
      have HW2 := hide hw2
      clear hw2 C
      go_wp2
      go_roundg (i + (j - i))
      case measure => omega
      case rel => exact ⟨i, j - i, _, _, _, rfl, by go_num, hi0, by omega, hi, by omega, Nat.le_refl _, HW2.out, permIn_trans _ _ _ _ _ HP.out (swr_perm dk (m - i) (m + j - i) a b (by omega) (by omega) i (by omega) (by omega) (by omega)), fun x => by rw [rot_right dk hij (by omega) (by omega) x]; exact hR.out x⟩
    · have C := swapRange_any L enc HK.out H1.out cmp blk off cap (m - i) m i dk wr HHd.out hbw (by omega) (by omega) (by omega)
      rw [show ((m - i : Nat) : Int) = (m : Int) - (i : Int) by omega, hS] at C
      go_wp2_with fail
      refine C.mono ?_
      rintro e w2 ⟨rfl, q2, os2, hw2⟩
      rw [AG.out _ _ _ (swr_size ..)] at hw2
      have HW2 := hide hw2
      clear hw2 C
      go_wp2
      go_end0
      exact ⟨rfl, _, _, _, HW2.out, permIn_trans _ _ _ _ _ HP.out (swr_perm dk (m - i) m a b (by omega) (by omega) i (by omega) (by omega) (by omega)), fun x => by rw [rot_same dk (by omega) (by omega) x]; exact hR.out x⟩
    · have C := swapRange_any L enc HK.out H1.out cmp blk off cap (m - i) m j dk wr HHd.out hbw (by omega) (by omega) (by omega)
      rw [show ((m - i : Nat) : Int) = (m : Int) - (i : Int) by omega, hS] at C
      have hne : ((i : Int) == (j : Int)) = false := by simp; omega
      go_wp2_with fail
      refine C.mono ?_
      rintro e w2 ⟨rfl, q2, os2, hw2⟩
      rw [AG.out _ _ _ (swr_size ..)] at hw2
      have HW2 := hide hw2
      clear hw2 C
      go_wp2
      go_roundg (i - j + j)
      case measure => omega
      case rel => exact ⟨i - j, j, _, _, _, by go_num, rfl, by omega, hj0, by omega, hj, Nat.le_refl _, HW2.out, permIn_trans _ _ _ _ _ HP.out (swr_perm dk (m - i) m a b (by omega) (by omega) j (by omega) (by omega) (by omega)), fun x => by rw [rot_left dk hij (by omega) (by omega) x]; exact hR.out x⟩
set_option maxHeartbeats 4000000 in
set_option maxRecDepth 1000000 in
theorem symLeft_any (cf : β → β → Int) (g : Nat) (cb : Array Value) (blk off cap a m b : Nat) (d : Array β) (w : World)
    (eg : ∀ args w, (callFunc g args).run P w = .ok (.enter g args) w) (hcmp : Cmp P g cb enc k cf blk off d.size w) (hH : HoldsK enc k w blk off d) (hblk : blk < w.heap.size) (ham : m = a + 1) (hmb : m ≤ b) (hb : b ≤ d.size) (hsz : d.size < 4611686018427387904)
    (hmono : ∀ s t, m ≤ s → s ≤ t → t < b → cf d[t]! d[a]! < 0 → cf d[s]! d[a]! < 0) :
    Calls P 57 #[.slice (some ⟨blk, off, none⟩) d.size cap, .int .i64 a, .int .i64 m, .int .i64 b, .func (.func g) #[] cb] w fun e w' =>
      e = .returned (.tuple #[]) ∧ ∃ q os i, w' = SW enc k w blk off q (fwd d a (i - 1 - a)) os ∧ m ≤ i ∧ i ≤ b ∧ (∀ t, m ≤ t → t < i → cf d[t]! d[a]! < 0) ∧ (∀ t, i ≤ t → t < b → 0 ≤ cf d[t]! d[a]!) := by
  have mixed := L.mixed; have tS := L.tS; have aS := L.aS; have zS := L.zS; have vS := L.vS; have t3 := L.t3; have a3 := L.a3; have z3 := L.z3; have v3 := L.v3; have t4 := L.t4; have a4 := L.a4; have z4 := L.z4; have v4 := L.v4; have aE := L.aE; have zE := L.zE; have tU := L.tU; have aU := L.aU; have zU := L.zU; have vU := L.vU
  have uS := run_underlying L.tS
  have eIns := L.eIns; have eSwr := L.eSwr; have eRot := L.eRot; have eSym := L.eSym; have eStb := L.eStb
  have HC : Aside _ := hcmp
  have HM := hide hmono
  have HST : Hid (w = SW enc k w blk off 0 d #[]) := by show w = _; unfold SW sortWorldK; rw [grow_empty]; exact (putRowK_self enc k w blk off d hH).symm
  have HH : Hid (HoldsK enc k w blk off d) := hH
  have HK : Hid (∀ x, (enc x).length = k) := hk
  have H1 : Hid (∀ x, ∀ v ∈ enc x, v.oneCell' = true) := h1
  clear hH hk h1 hcmp hmono
  have hm1 : (((m : Int) - (a : Int)) == 1) = true := by simp; omega
  have HAM := hide ham
  have ham' : a < m := by omega
  clear ham
  go_enter L.fSym, Tryd.ntmps57
  go_wp2
  go_loopg [10, 11] (b - a) (fun g1 vi vj wr => ∃ (i j q : Nat) (os : Array Obj), vi = .int .i64 i ∧ vj = .int .i64 j ∧ m ≤ i ∧ i ≤ j ∧ j ≤ b ∧ j - i ≤ g1 ∧ wr = SW enc k w blk off q d os ∧ Hid (∀ t, m ≤ t → t < i → cf d[t]! d[a]! < 0) ∧ Hid (∀ t, j ≤ t → t < b → 0 ≤ cf d[t]! d[a]!))
  case atStart => exact ⟨m, b, 0, #[], rfl, rfl, by omega, by omega, by omega, by omega, HST.out, hide fun t h h' => by omega, hide fun t h h' => by omega⟩
  case round =>
    obtain ⟨i, j, q, os, rfl, rfl, hi, hij, hj, hg1, hwr, HLO, HHI⟩ := hrel
    obtain ⟨dk, hdk⟩ : ∃ dk, dk = d := ⟨d, rfl⟩
    have hS : dk.size = d.size := by rw [hdk]
    have HQ : Hid (wr = SW enc k w blk off q dk os) := by show _ = _; rw [hdk]; exact hwr
    have HD := hide hdk
    clear hwr hdk
    generalize wr = wq at *
    by_cases hlt : i < j
    · obtain ⟨h, hh⟩ : ∃ h, h = (i + j) / 2 := ⟨_, rfl⟩
      have h2 : i ≤ h ∧ h < j := by omega
      have x1 : ((i : Int) + (j : Int)) / 2 = (h : Int) := by omega
      have HH2 := hide hh
      clear hh
      have z5 : (h : Int) < (d.size : Int) := by omega
      have z6 : (a : Int) < (d.size : Int) := by omega
      have hcls : ∀ n' os', grow (wq.drewN n') os' = SW enc k w blk off (q + n') dk (os ++ os') := fun n' os' => by rw [HQ.out]; exact sortWorldK_grown_c enc k w blk off q n' dk os os'
      have hHc : ∀ n' os', HoldsK enc k (grow (wq.drewN n') os') blk off dk := fun n' os' => by rw [hcls]; exact holdsK_sortWorldK_c enc k w blk off d dk _ _ HH.out hblk hS
      have l1 : ∀ n' os', Sem.run P (loadCellsFrom ⟨blk, off + (h) * k, none⟩ 0 k #[]) (grow (wq.drewN n') os') = .ok (enc dk[h]!).toArray (grow (wq.drewN n') os') := fun n' os' => loads P HK.out (hHc n' os') (by omega)
      have l2 : ∀ n' os', Sem.run P (loadCellsFrom ⟨blk, off + (a) * k, none⟩ 0 k #[]) (grow (wq.drewN n') os') = .ok (enc dk[a]!).toArray (grow (wq.drewN n') os') := fun n' os' => loads P HK.out (hHc n' os') (by omega)
      have hcg : ∀ n' os', Calls P g (#[.agg (enc dk[h]!).toArray, .agg (enc dk[a]!).toArray] ++ cb) (grow (wq.drewN n') os') fun e w' => e = .returned (.int .i64 (cf dk[h]! dk[a]!)) ∧ ∃ q os'', w' = grow ((grow (wq.drewN n') os').drewN q) os'' := fun n' os' => by
        rw [hcls]; exact HC.out _ _ dk hS dk[h]! dk[a]!
      have CLS : Hid _ := hcls
      clear hcls hHc
      by_cases hlv : cf dk[h]! dk[a]! < 0
      · go_wp2_with fail
        go_quiet_grown (first | (go_at_fn g; refine Calls.grown_of (hcg _ _)))
        go_wp2
        have hlv' : cf d[h]! d[a]! < 0 := by rw [← HD.out]; exact hlv
        go_roundg (j - (h + 1))
        case measure => omega
        case rel => exact ⟨h + 1, j, q + nq, os ++ osq, by go_num, rfl, by omega, by omega, hj, Nat.le_refl _, by rw [CLS.out, HD.out], hide fun t h3 h4 => HM.out t h h3 (by omega) (by omega) hlv', HHI⟩
      · go_wp2_with fail
        go_quiet_grown (first | (go_at_fn g; refine Calls.grown_of (hcg _ _)))
        go_wp2
        have hlv' : ¬ cf d[h]! d[a]! < 0 := by have e := hlv; rw [HD.out] at e; omega
        go_roundg (h - i)
        case measure => omega
        case rel => exact ⟨i, h, q + nq, os ++ osq, rfl, rfl, hi, by omega, by omega, Nat.le_refl _, by rw [CLS.out, HD.out], HLO, hide fun t h3 h4 => Int.not_lt.1 fun hc => hlv' (HM.out h t (by omega) h3 h4 hc)⟩
    · obtain rfl : i = j := by omega
      go_wp2
      go_loopg [13] (i - 1 - a) (fun g2 vk wr2 => ∃ (n q : Nat) (os : Array Obj), vk = .int .i64 ((a + n : Nat) : Int) ∧ n ≤ i - 1 - a ∧ i - 1 - a - n ≤ g2 ∧ wr2 = SW enc k w blk off q (fwd d a n) os)
      case atStart => exact ⟨0, q, os, by go_num, by omega, by omega, by rw [HQ.out, HD.out]; rfl⟩
      case round =>
        clear HQ HD hS
        obtain ⟨n, q2, os2, rfl, hn, hg2, hwr⟩ := hrel
        by_cases hlt2 : n < i - 1 - a
        · have hS : (fwd d a n).size = d.size := fwd_size d a n
          have HNX : Hid (swp (fwd d a n) (a + n) (a + n + 1) = fwd d a (n + 1)) := rfl
          generalize fwd d a n = dk at *
          have HQ : Hid (wr = SW enc k w blk off q2 dk os2) := hwr
          clear hwr
          generalize wr = wq at *
          generalize hp : a + n = p at *
          have x1 : IntKind.i64.wrap ((p : Int) + 1) = (p : Int) + 1 := IntWalk.i64_in _ (by omega)
          have y1 : ((p : Int) + 1).toNat = p + 1 := by omega
          have z1 : (0 : Int) ≤ (p : Int) + 1 := by omega
          have z5 : (p : Int) + 1 < (d.size : Int) := by omega
          have z6 : (p : Int) < (d.size : Int) := by omega
          have hHd : HoldsK enc k wq.drew blk off dk := by
            have : HoldsK enc k wq blk off dk := by rw [HQ.out]; exact holdsK_sortWorldK_c enc k w blk off d dk _ _ HH.out hblk hS
            exact this
          have hI : (p) < dk.size := (by omega)
          have hJ : (p + 1) < dk.size := (by omega)
          have lI := loads P HK.out hHd hI
          have lJ := loads P HK.out hHd hJ
          have s1 := stores1 P HK.out H1.out hHd hI dk[(p + 1)]!
          have s2 := stores2 P HK.out H1.out hHd hI hJ dk[(p + 1)]! dk[(p)]!
          have hl1 : (enc dk[(p)]!).length = k := HK.out _
          have hl2 : (enc dk[(p + 1)]!).length = k := HK.out _
          obtain ⟨c1, hc1⟩ : ∃ c, c = enc dk[(p)]! := ⟨_, rfl⟩
          obtain ⟨c2, hc2⟩ : ∃ c, c = enc dk[(p + 1)]! := ⟨_, rfl⟩
          rw [← hc1] at lI hl1
          rw [← hc2] at lJ s1 hl2
          rw [← hc1, ← hc2] at s2
          have CC : Hid (c1 = enc dk[(p)]! ∧ c2 = enc dk[(p + 1)]!) := ⟨hc1, hc2⟩
          clear hc1 hc2 hHd hI hJ
          go_wp2_with fail
          go_big_region_o
          all_goals go_wp2
          go_roundg (i - 1 - a - (n + 1))
          case measure => omega
          case rel =>
            refine ⟨n + 1, q2 + 1, os2, by go_num, by omega, Nat.le_refl _, ?_⟩
            rw [← HNX.out, CC.out.1, CC.out.2, HQ.out]
            exact sortWorldK_swp_c enc k w blk off HK.out q2 dk os2 hblk p (p + 1) (by omega) (by omega)
        · obtain rfl : n = i - 1 - a := by omega
          rw [show ((a + (i - 1 - a) : Nat) : Int) = (i : Int) - 1 by omega]
          go_wp2
          exact bodyPost_ret (v := .tuple #[]) (results_none rfl _ _ _) rfl ⟨rfl, q2, os2, i, rfl, hi, hj, HLO.out, HHI.out⟩
set_option maxHeartbeats 4000000 in
set_option maxRecDepth 1000000 in
theorem symRight_any (cf : β → β → Int) (g : Nat) (cb : Array Value) (blk off cap a m b : Nat) (d : Array β) (w : World)
    (eg : ∀ args w, (callFunc g args).run P w = .ok (.enter g args) w) (hcmp : Cmp P g cb enc k cf blk off d.size w) (hH : HoldsK enc k w blk off d) (hblk : blk < w.heap.size) (ham : a + 1 < m) (hmb : b = m + 1) (hb : b ≤ d.size) (hsz : d.size < 4611686018427387904)
    (hmono : ∀ s t, a ≤ s → s ≤ t → t < m → cf d[m]! d[s]! < 0 → cf d[m]! d[t]! < 0) :
    Calls P 57 #[.slice (some ⟨blk, off, none⟩) d.size cap, .int .i64 a, .int .i64 m, .int .i64 b, .func (.func g) #[] cb] w fun e w' =>
      e = .returned (.tuple #[]) ∧ ∃ q os i, w' = SW enc k w blk off q (bwd d m (m - i)) os ∧ a ≤ i ∧ i ≤ m ∧ (∀ t, a ≤ t → t < i → 0 ≤ cf d[m]! d[t]!) ∧ (∀ t, i ≤ t → t < m → cf d[m]! d[t]! < 0) := by
  have mixed := L.mixed; have tS := L.tS; have aS := L.aS; have zS := L.zS; have vS := L.vS; have t3 := L.t3; have a3 := L.a3; have z3 := L.z3; have v3 := L.v3; have t4 := L.t4; have a4 := L.a4; have z4 := L.z4; have v4 := L.v4; have aE := L.aE; have zE := L.zE; have tU := L.tU; have aU := L.aU; have zU := L.zU; have vU := L.vU
  have uS := run_underlying L.tS
  have eIns := L.eIns; have eSwr := L.eSwr; have eRot := L.eRot; have eSym := L.eSym; have eStb := L.eStb
  have HC : Aside _ := hcmp
  have HM := hide hmono
  have HST : Hid (w = SW enc k w blk off 0 d #[]) := by show w = _; unfold SW sortWorldK; rw [grow_empty]; exact (putRowK_self enc k w blk off d hH).symm
  have HH : Hid (HoldsK enc k w blk off d) := hH
  have HK : Hid (∀ x, (enc x).length = k) := hk
  have H1 : Hid (∀ x, ∀ v ∈ enc x, v.oneCell' = true) := h1
  clear hH hk h1 hcmp hmono
  have hm1 : (((m : Int) - (a : Int)) == 1) = false := by simp; omega
  have hm2 : (((b : Int) - (m : Int)) == 1) = true := by simp; omega
  have hmb' : m < b := by omega
  have HMB := hide hmb
  clear hmb
  go_enter L.fSym, Tryd.ntmps57
  go_wp2
  go_loopg [14, 15] (b - a) (fun g1 vi vj wr => ∃ (i j q : Nat) (os : Array Obj), vi = .int .i64 i ∧ vj = .int .i64 j ∧ a ≤ i ∧ i ≤ j ∧ j ≤ m ∧ j - i ≤ g1 ∧ wr = SW enc k w blk off q d os ∧ Hid (∀ t, a ≤ t → t < i → 0 ≤ cf d[m]! d[t]!) ∧ Hid (∀ t, j ≤ t → t < m → cf d[m]! d[t]! < 0))
  case atStart => exact ⟨a, m, 0, #[], rfl, rfl, by omega, by omega, by omega, by omega, HST.out, hide fun t h h' => by omega, hide fun t h h' => by omega⟩
  case round =>
    obtain ⟨i, j, q, os, rfl, rfl, hi, hij, hj, hg1, hwr, HLO, HHI⟩ := hrel
    obtain ⟨dk, hdk⟩ : ∃ dk, dk = d := ⟨d, rfl⟩
    have hS : dk.size = d.size := by rw [hdk]
    have HQ : Hid (wr = SW enc k w blk off q dk os) := by show _ = _; rw [hdk]; exact hwr
    have HD := hide hdk
    clear hwr hdk
    generalize wr = wq at *
    by_cases hlt : i < j
    · obtain ⟨h, hh⟩ : ∃ h, h = (i + j) / 2 := ⟨_, rfl⟩
      have h2 : i ≤ h ∧ h < j := by omega
      have x1 : ((i : Int) + (j : Int)) / 2 = (h : Int) := by omega
      have HH2 := hide hh
      clear hh
      have z5 : (h : Int) < (d.size : Int) := by omega
      have z6 : (m : Int) < (d.size : Int) := by omega
      have hcls : ∀ n' os', grow (wq.drewN n') os' = SW enc k w blk off (q + n') dk (os ++ os') := fun n' os' => by rw [HQ.out]; exact sortWorldK_grown_c enc k w blk off q n' dk os os'
      have hHc : ∀ n' os', HoldsK enc k (grow (wq.drewN n') os') blk off dk := fun n' os' => by rw [hcls]; exact holdsK_sortWorldK_c enc k w blk off d dk _ _ HH.out hblk hS
      have l1 : ∀ n' os', Sem.run P (loadCellsFrom ⟨blk, off + (m) * k, none⟩ 0 k #[]) (grow (wq.drewN n') os') = .ok (enc dk[m]!).toArray (grow (wq.drewN n') os') := fun n' os' => loads P HK.out (hHc n' os') (by omega)
      have l2 : ∀ n' os', Sem.run P (loadCellsFrom ⟨blk, off + (h) * k, none⟩ 0 k #[]) (grow (wq.drewN n') os') = .ok (enc dk[h]!).toArray (grow (wq.drewN n') os') := fun n' os' => loads P HK.out (hHc n' os') (by omega)
      have hcg : ∀ n' os', Calls P g (#[.agg (enc dk[m]!).toArray, .agg (enc dk[h]!).toArray] ++ cb) (grow (wq.drewN n') os') fun e w' => e = .returned (.int .i64 (cf dk[m]! dk[h]!)) ∧ ∃ q os'', w' = grow ((grow (wq.drewN n') os').drewN q) os'' := fun n' os' => by
        rw [hcls]; exact HC.out _ _ dk hS dk[m]! dk[h]!
      have CLS : Hid _ := hcls
      clear hcls hHc
      by_cases hlv : cf dk[m]! dk[h]! < 0
      · have hb1 : decide (0 ≤ cf dk[m]! dk[h]!) = false := by simp; omega
        have hb2 : decide (cf dk[m]! dk[h]! < 0) = true := by simp; omega
        go_wp2_with fail
        go_quiet_grown (first | (go_at_fn g; refine Calls.grown_of (hcg _ _)))
        go_wp2
        have hlv' : cf d[m]! d[h]! < 0 := by rw [← HD.out]; exact hlv
        go_roundg (h - i)
        case measure => omega
        case rel => exact ⟨i, h, q + nq, os ++ osq, rfl, rfl, hi, by omega, by omega, Nat.le_refl _, by rw [CLS.out, HD.out], HLO, hide fun t h3 h4 => HM.out h t (by omega) h3 h4 hlv'⟩
      · have hb1 : decide (0 ≤ cf dk[m]! dk[h]!) = true := by simp; omega
        have hb2 : decide (cf dk[m]! dk[h]! < 0) = false := by simp; omega
        go_wp2_with fail
        go_quiet_grown (first | (go_at_fn g; refine Calls.grown_of (hcg _ _)))
        go_wp2
        have hlv' : ¬ cf d[m]! d[h]! < 0 := by have e := hlv; rw [HD.out] at e; omega
        go_roundg (j - (h + 1))
        case measure => omega
        case rel => exact ⟨h + 1, j, q + nq, os ++ osq, by go_num, rfl, by omega, by omega, hj, Nat.le_refl _, by rw [CLS.out, HD.out], hide fun t h3 h4 => Int.not_lt.1 fun hc => hlv' (HM.out t h h3 (by omega) (by omega) hc), HHI⟩
    · obtain rfl : i = j := by omega
      go_wp2
      go_loopg [17] (m - i) (fun g2 vk wr2 => ∃ (c q : Nat) (os : Array Obj), vk = .int .i64 c ∧ i ≤ c ∧ c ≤ m ∧ c - i ≤ g2 ∧ wr2 = SW enc k w blk off q (bwd d m (m - c)) os)
      case atStart => exact ⟨m, q, os, rfl, by omega, by omega, by omega, by rw [HQ.out, HD.out, Nat.sub_self]; rfl⟩
      case round =>
        clear HQ HD hS
        obtain ⟨c, q2, os2, rfl, hc1, hc2, hg2, hwr⟩ := hrel
        by_cases hlt2 : i < c
        · obtain ⟨p, rfl⟩ : ∃ p, c = p + 1 := ⟨c - 1, by omega⟩
          have hS : (bwd d m (m - (p + 1))).size = d.size := bwd_size d m _
          have HNX : Hid (swp (bwd d m (m - (p + 1))) (p + 1) p = bwd d m (m - p)) := bwd_step d hc2
          generalize bwd d m (m - (p + 1)) = dk at *
          have HQ : Hid (wr = SW enc k w blk off q2 dk os2) := hwr
          clear hwr
          generalize wr = wq at *
          have x1 : IntKind.i64.wrap (p : Int) = (p : Int) := IntWalk.i64_in _ (by omega)
          have y1 : ((p : Int) + 1).toNat = p + 1 := by omega
          have z1 : (0 : Int) ≤ (p : Int) + 1 := by omega
          have z5 : (p : Int) + 1 < (d.size : Int) := by omega
          have z6 : (p : Int) < (d.size : Int) := by omega
          have hHd : HoldsK enc k wq.drew blk off dk := by
            have : HoldsK enc k wq blk off dk := by rw [HQ.out]; exact holdsK_sortWorldK_c enc k w blk off d dk _ _ HH.out hblk hS
            exact this
          have hI : (p + 1) < dk.size := (by omega)
          have hJ : (p) < dk.size := (by omega)
          have lI := loads P HK.out hHd hI
          have lJ := loads P HK.out hHd hJ
          have s1 := stores1 P HK.out H1.out hHd hI dk[(p)]!
          have s2 := stores2 P HK.out H1.out hHd hI hJ dk[(p)]! dk[(p + 1)]!
          have hl1 : (enc dk[(p + 1)]!).length = k := HK.out _
          have hl2 : (enc dk[(p)]!).length = k := HK.out _
          obtain ⟨c1, hc1⟩ : ∃ c, c = enc dk[(p + 1)]! := ⟨_, rfl⟩
          obtain ⟨c2, hc2⟩ : ∃ c, c = enc dk[(p)]! := ⟨_, rfl⟩
          rw [← hc1] at lI hl1
          rw [← hc2] at lJ s1 hl2
          rw [← hc1, ← hc2] at s2
          have CC : Hid (c1 = enc dk[(p + 1)]! ∧ c2 = enc dk[(p)]!) := ⟨hc1, hc2⟩
          clear hc1 hc2 hHd hI hJ
          go_wp2_with fail
          go_big_region_o
          all_goals go_wp2
          go_roundg (p - i)
          case measure => omega
          case rel =>
            refine ⟨p, q2 + 1, os2, by go_num, by omega, by omega, Nat.le_refl _, ?_⟩
            rw [← HNX.out, CC.out.1, CC.out.2, HQ.out]
            exact sortWorldK_swp_c enc k w blk off HK.out q2 dk os2 hblk (p + 1) p (by omega) (by omega)
        · obtain rfl : c = i := by omega
          go_wp2
          exact bodyPost_ret (v := .tuple #[]) (results_none rfl _ _ _) rfl ⟨rfl, q2, os2, c, rfl, hi, hj, HLO.out, HHI.out⟩
end
end StabBat
end Go.Proofs.YtkcfalehebacpaaDoor

/- The library's stable sort of api.Batch: merging, and the whole. -/
namespace Go.Proofs.YtkcfalehebacpaaDoor
open Go Go.Sort Go.RowKit Go.Lib Go.Shelf Go.Proofs
namespace StabBat
variable {P : Program}
section
variable {β : Type} [Inhabited β] {enc : β → List Value} {k : Nat} {w : World} {blk off : Nat} {d : Array β}
theorem SW_holds (hH : HoldsK enc k w blk off d) (hblk : blk < w.heap.size) (q : Nat) (r : Array β) (os : Array Obj) (hs : r.size = d.size) : HoldsK enc k (SW enc k w blk off q r os) blk off r :=
  holdsK_sortWorldK_c enc k w blk off d r q os hH hblk hs
theorem SW_lt (hblk : blk < w.heap.size) (q : Nat) (r : Array β) (os : Array Obj) : blk < (SW enc k w blk off q r os).heap.size :=
  Nat.lt_of_lt_of_le hblk (size_sortWorldK_c enc k w blk off q r os)
theorem SW_start (hH : HoldsK enc k w blk off d) : w = SW enc k w blk off 0 d #[] := by unfold SW sortWorldK; rw [grow_empty]; exact (putRowK_self enc k w blk off d hH).symm
theorem cmp_again {g : Nat} {cb : Array Value} {cf : β → β → Int} {size : Nat} (h : Cmp P g cb enc k cf blk off size w) (hblk : blk < w.heap.size) (q : Nat) (r : Array β) (os : Array Obj) (hs : r.size = size) :
    Cmp P g cb enc k cf blk off size (SW enc k w blk off q r os) := by
  intro m os' dk hd x y
  have e : sortWorldK enc k (SW enc k w blk off q r os) blk off m dk os' = sortWorldK enc k w blk off (q + m) dk (os ++ os') := SW_again enc k w blk off q m r dk os os' hblk (by omega)
  rw [e]
  exact h (q + m) (os ++ os') dk hd x y
end
section
variable {α : Type} [Inhabited α] {k : Nat} (L : Lay P k) (enc0 : α → List Value) (hk : ∀ x, (enc0 x).length = k) (h1 : ∀ x, ∀ v ∈ enc0 x, v.oneCell' = true) (cf0 : α → α → Int)
/-- elements with their tags -/
def encT (enc0 : α → List Value) (x : α × Nat) : List Value := enc0 x.1
def cfT (cf0 : α → α → Int) (x y : α × Nat) : Int := cf0 x.1 y.1
def ltF (cf0 : α → α → Int) (x y : α) : Bool := decide (cf0 x y < 0)
theorem ltT_true {α : Type} {cf0 : α → α → Int} {x y : α × Nat} : ltT (ltF cf0) x y = true ↔ cfT cf0 x y < 0 := by simp [ltT, ltF, cfT]
theorem ltT_false {α : Type} {cf0 : α → α → Int} {x y : α × Nat} : ltT (ltF cf0) x y = false ↔ 0 ≤ cfT cf0 x y := by simp [ltT, ltF, cfT]
theorem Parts.out {lt : α → α → Bool} {a m b : Nat} {d r : Array (α × Nat)} (h : Parts lt a m b d) (hr : ∀ x, a ≤ x → r[x]! = d[x]!) (hs : r.size = d.size) : Parts lt a m b r := by
  have h1 := h.am
  have h2 := h.mb
  refine ⟨fun i j h3 h4 h5 => ?_, fun i j h3 h4 h5 => ?_, fun i j h3 h4 h5 h6 => ?_, h1, h2, by have := h.size; omega⟩
  · rw [hr _ h3, hr _ (by omega)]; exact h.left i j h3 h4 h5
  · rw [hr _ (by omega), hr _ (by omega)]; exact h.right i j h3 h4 h5
  · rw [hr _ h3, hr _ (by omega)]; exact h.tags i j h3 h4 h5 h6
/-- one of the two parts is empty -/
theorem Parts.whole {lt : α → α → Bool} {a m b : Nat} {d : Array (α × Nat)} (h : Parts lt a m b d) (he : ¬ (a < m ∧ m < b)) : TS lt a b d := by
  have h1 := h.am
  have h2 := h.mb
  by_cases h3 : a = m
  · rw [h3]; exact h.right
  · have : m = b := by omega
    rw [← this]; exact h.left
-- behind the rotation: world wq = SW .. q1 r1 os1 (HQ), HPM, HP1, HP2, HCR
/-- what a sort of the places from a to b leaves -/
def Sorted_ (lt : α → α → Bool) (enc : α × Nat → List Value) (k : Nat) (w : World) (blk off a b : Nat) (d : Array (α × Nat)) (e : Ending) (w' : World) : Prop :=
  e = .returned (.tuple #[]) ∧ ∃ q r os, w' = SW enc k w blk off q r os ∧ PermIn a b d r ∧ TS lt a b r
include L hk h1
set_option maxHeartbeats 8000000 in
set_option maxRecDepth 1000000 in
theorem symMerge_any (hS : SWO (ltF cf0)) (g : Nat) (cb : Array Value) (blk off cap : Nat) (eg : ∀ args w, (callFunc g args).run P w = .ok (.enter g args) w) :
    ∀ (n a m b : Nat) (d : Array (α × Nat)) (w : World), b - a ≤ n → Cmp P g cb (encT enc0) k (cfT cf0) blk off d.size w → HoldsK (encT enc0) k w blk off d → blk < w.heap.size → a < m → m < b → b ≤ d.size → d.size < 4611686018427387904 → Parts (ltF cf0) a m b d →
    Calls P 57 #[.slice (some ⟨blk, off, none⟩) d.size cap, .int .i64 a, .int .i64 m, .int .i64 b, .func (.func g) #[] cb] w (Sorted_ (ltF cf0) (encT enc0) k w blk off a b d) := by
  intro n
  induction n with
  | zero => intro a m b d w hn _ _ _ h1 h2; omega
  | succ n IH =>
    intro a m b d w hn hcmp hH hblk ham hmb hb hsz hP
    by_cases hA : m = a + 1
    · refine (symLeft_any L (encT enc0) (fun x => hk x.1) (fun x => h1 x.1) (cfT cf0) g cb blk off cap a m b d w eg hcmp hH hblk hA (by omega) hb hsz ?_).mono ?_
      · intro s t h2 h3 h4 h5
        rcases Int.lt_or_le (cfT cf0 d[s]! d[a]!) 0 with h | h
        · exact h
        · exfalso
          have e1 := (hP.cross hS (i := a) (j := s) (Nat.le_refl _) (by omega) h2 (by omega)).1 (ltT_false.2 h)
          have e2 := TL.then_le hS e1 (at_eq (hP.right.le h2 h3 h4))
          have e3 := ltT_false.1 (TL.early_iff hS e2)
          omega
      · rintro e w' ⟨rfl, q, os, i, rfl, hi1, hi2, hlo, hhi⟩
        exact ⟨rfl, q, _, os, rfl, fwd_perm d a b hb _ (by omega), one_left hS hP hA hi1 hi2 (fun t h3 h4 => ltT_true.2 (hlo t h3 h4)) (fun t h3 h4 => ltT_false.2 (hhi t h3 h4))⟩
    by_cases hBB : b = m + 1
    · refine (symRight_any L (encT enc0) (fun x => hk x.1) (fun x => h1 x.1) (cfT cf0) g cb blk off cap a m b d w eg hcmp hH hblk (by omega) hBB hb hsz ?_).mono ?_
      · intro s t h2 h3 h4 h5
        rcases Int.lt_or_le (cfT cf0 d[m]! d[t]!) 0 with h | h
        · exact h
        · exfalso
          have e1 := (hP.cross hS (i := t) (j := m) (by omega) h4 (Nat.le_refl _) (by omega)).1 (ltT_false.2 h)
          have e2 := TL.le_then hS (at_eq (hP.left.le h2 h3 h4)) e1
          have e3 := ltT_false.1 (TL.early_iff hS e2)
          omega
      · rintro e w' ⟨rfl, q, os, i, rfl, hi1, hi2, hlo, hhi⟩
        exact ⟨rfl, q, _, os, rfl, bwd_perm d a b m hb (by omega) _ (by omega), one_right hS hP hBB hi1 hi2 (fun t h3 h4 => ltT_false.2 (hlo t h3 h4)) (fun t h3 h4 => ltT_true.2 (hhi t h3 h4))⟩
    obtain ⟨mid, hmid⟩ : ∃ mid, mid = (a + b) / 2 := ⟨_, rfl⟩
    obtain ⟨s0, hs0⟩ : ∃ s0, s0 = if mid < m then mid + m - b else a := ⟨_, rfl⟩
    obtain ⟨r0, hr0⟩ : ∃ r0, r0 = if mid < m then mid else m := ⟨_, rfl⟩
    have hb0 : a ≤ s0 ∧ s0 ≤ r0 ∧ r0 ≤ m ∧ r0 ≤ mid ∧ mid + m ≤ s0 + b ∧ a < mid ∧ mid < b := by split at hs0 <;> split at hr0 <;> omega
    have x0 : ((a : Int) + (b : Int)) / 2 = (mid : Int) := by omega
    have HMID := hide hmid
    have HS0 := hide hs0
    have HR0 := hide hr0
    have HP := hide hP
    have HSW := hide hS
    have HC : Aside _ := hcmp
    have HH : Hid (HoldsK (encT enc0) k w blk off d) := hH
    have HST : Hid (w = SW (encT enc0) k w blk off 0 d #[]) := SW_start hH
    obtain ⟨enc, henc⟩ : ∃ enc, enc = encT enc0 := ⟨_, rfl⟩
    rw [← henc] at HC HH HST ⊢
    obtain ⟨cf, hcf⟩ : ∃ cf, cf = cfT cf0 := ⟨_, rfl⟩
    rw [← hcf] at HC
    rw [← henc, ← hcf] at IH
    have HIH := hide IH
    have HK : Hid (∀ x, (enc x).length = k) := by show ∀ x, (enc x).length = k; rw [henc]; exact fun x => hk x.1
    have H1 : Hid (∀ x, ∀ v ∈ enc x, v.oneCell' = true) := by show ∀ x, ∀ v ∈ enc x, v.oneCell' = true; rw [henc]; exact fun x => h1 x.1
    have HENC := hide henc
    have HCF := hide hcf
    have hm1 : (((m : Int) - (a : Int)) == 1) = false := by simp; omega
    have hm2 : (((b : Int) - (m : Int)) == 1) = false := by simp; omega
    clear hmid hs0 hr0 hP hS IH hcmp hH henc hcf
    have mixed := L.mixed; have tS := L.tS; have aS := L.aS; have zS := L.zS; have vS := L.vS; have t3 := L.t3; have a3 := L.a3; have z3 := L.z3; have v3 := L.v3; have t4 := L.t4; have a4 := L.a4; have z4 := L.z4; have v4 := L.v4; have aE := L.aE; have zE := L.zE; have tU := L.tU; have aU := L.aU; have zU := L.zU; have vU := L.vU
    have uS := run_underlying L.tS
    have eIns := L.eIns; have eSwr := L.eSwr; have eRot := L.eRot; have eSym := L.eSym; have eStb := L.eStb
    clear hk h1
    by_cases hmm : mid < m
    all_goals
      have hs0 : (s0 : Int) = if mid < m then (mid : Int) + (m : Int) - (b : Int) else (a : Int) := by rw [HS0.out]; split <;> omega
      have hr0 : (r0 : Int) = if mid < m then (mid : Int) else (m : Int) := by rw [HR0.out]; split <;> omega
      first | rw [if_pos hmm] at hs0 hr0 | rw [if_neg hmm] at hs0 hr0
      have HS0i := hide hs0
      have HR0i := hide hr0
      clear hs0 hr0
      go_enter L.fSym, Tryd.ntmps57
      go_wp2
      go_loopg [20, 21] (b - a) (fun g1 vi vj wr => ∃ (i j q : Nat) (os : Array Obj), vi = .int .i64 i ∧ vj = .int .i64 j ∧ s0 ≤ i ∧ i ≤ j ∧ j ≤ r0 ∧ j - i ≤ g1 ∧ wr = SW enc k w blk off q d os ∧ Hid (∀ c, s0 ≤ c → c < i → ltT (ltF cf0) d[mid + m - 1 - c]! d[c]! = false) ∧ Hid (∀ c, j ≤ c → c < r0 → ltT (ltF cf0) d[mid + m - 1 - c]! d[c]! = true))
      case atStart => exact ⟨s0, r0, 0, #[], by have := HS0i.out; go_num, by have := HR0i.out; go_num, by omega, by omega, by omega, by omega, HST.out, hide fun t h h' => by omega, hide fun t h h' => by omega⟩
      case round =>
        obtain ⟨i, j, q, os, rfl, rfl, hi, hij, hj, hg1, hwr, HLO, HHI⟩ := hrel
        obtain ⟨dk, hdk⟩ : ∃ dk, dk = d := ⟨d, rfl⟩
        have hS : dk.size = d.size := by rw [hdk]
        have HQ : Hid (wr = SW enc k w blk off q dk os) := by show _ = _; rw [hdk]; exact hwr
        have HD := hide hdk
        clear hwr hdk
        generalize wr = wq at *
        by_cases hlt : i < j
        · obtain ⟨h, hh⟩ : ∃ h, h = (i + j) / 2 := ⟨_, rfl⟩
          have h2 : i ≤ h ∧ h < j := by omega
          have y1 : ((i : Int) + (j : Int)) / 2 = (h : Int) := by omega
          have HH2 := hide hh
          clear hh
          obtain ⟨u, hu⟩ : ∃ u, u = mid + m - 1 - h := ⟨_, rfl⟩
          have hu2 : u + h + 1 = mid + m ∧ m ≤ u ∧ u < b := by
            have := HS0.out; have := HR0.out
            split at * <;> omega
          have HU := hide hu
          clear hu
          have z3 : IntKind.i64.wrap ((mid : Int) + (m : Int) - 1 - (h : Int)) = (u : Int) := by rw [IntWalk.i64_in _ (by omega)]; omega
          have z5 : (h : Int) < (d.size : Int) := by omega
          have z6 : (u : Int) < (d.size : Int) := by omega
          have hcls : ∀ n' os', grow (wq.drewN n') os' = SW enc k w blk off (q + n') dk (os ++ os') := fun n' os' => by rw [HQ.out]; exact sortWorldK_grown_c enc k w blk off q n' dk os os'
          have hHc : ∀ n' os', HoldsK enc k (grow (wq.drewN n') os') blk off dk := fun n' os' => by rw [hcls]; exact holdsK_sortWorldK_c enc k w blk off d dk _ _ HH.out hblk hS
          have l1 : ∀ n' os', Sem.run P (loadCellsFrom ⟨blk, off + (u) * k, none⟩ 0 k #[]) (grow (wq.drewN n') os') = .ok (enc dk[u]!).toArray (grow (wq.drewN n') os') := fun n' os' => loads P HK.out (hHc n' os') (by omega)
          have l2 : ∀ n' os', Sem.run P (loadCellsFrom ⟨blk, off + (h) * k, none⟩ 0 k #[]) (grow (wq.drewN n') os') = .ok (enc dk[h]!).toArray (grow (wq.drewN n') os') := fun n' os' => loads P HK.out (hHc n' os') (by omega)
          have hcg : ∀ n' os', Calls P g (#[.agg (enc dk[u]!).toArray, .agg (enc dk[h]!).toArray] ++ cb) (grow (wq.drewN n') os') fun e w' => e = .returned (.int .i64 (cf dk[u]! dk[h]!)) ∧ ∃ q os'', w' = grow ((grow (wq.drewN n') os').drewN q) os'' := fun n' os' => by
            rw [hcls]; exact HC.out _ _ dk hS dk[u]! dk[h]!
          have CLS : Hid _ := hcls
          clear hcls hHc
          by_cases hlv : cf dk[u]! dk[h]! < 0
          · have hb1 : decide (0 ≤ cf dk[u]! dk[h]!) = false := by simp; omega
            have hb2 : decide (cf dk[u]! dk[h]! < 0) = true := by simp; omega
            go_wp2_with fail
            go_quiet_grown (first | (go_at_fn g; refine Calls.grown_of (hcg _ _)))
            go_wp2
            have hlv' : ltT (ltF cf0) d[u]! d[h]! = true := by rw [ltT_true, ← HCF.out, ← HD.out]; exact hlv
            go_roundg (h - i)
            case measure => omega
            case rel => exact ⟨i, h, q + nq, os ++ osq, rfl, rfl, hi, by omega, by omega, Nat.le_refl _, by rw [CLS.out, HD.out], HLO, hide fun c h3 h4 => probe_mono HSW.out HP.out (n := mid + m) (by omega) h3 (by omega) (by have := HS0.out; have := HR0.out; split at * <;> omega) (by omega) (by omega) (by rw [← HU.out]; exact hlv')⟩
          · have hb1 : decide (0 ≤ cf dk[u]! dk[h]!) = true := by simp; omega
            have hb2 : decide (cf dk[u]! dk[h]! < 0) = false := by simp; omega
            go_wp2_with fail
            go_quiet_grown (first | (go_at_fn g; refine Calls.grown_of (hcg _ _)))
            go_wp2
            have hlv' : ltT (ltF cf0) d[u]! d[h]! = false := by rw [ltT_false, ← HCF.out, ← HD.out]; omega
            go_roundg (j - (h + 1))
            case measure => omega
            case rel => exact ⟨h + 1, j, q + nq, os ++ osq, by go_num, rfl, by omega, by omega, hj, Nat.le_refl _, by rw [CLS.out, HD.out], hide fun c h3 h4 => (by
              cases hc : ltT (ltF cf0) d[mid + m - 1 - c]! d[c]!
              · rfl
              · exfalso
                have := probe_mono HSW.out HP.out (n := mid + m) (c' := c) (c := h) (by omega) (by omega) (by omega) (by omega) (by have := HS0.out; have := HR0.out; split at * <;> omega) (by omega) hc
                rw [← HU.out, hlv'] at this; cases this), HHI⟩
        · obtain rfl : i = j := by omega
          obtain ⟨en, hen⟩ : ∃ en, en = mid + m - i := ⟨_, rfl⟩
          have hen2 : en + i = mid + m ∧ m ≤ en ∧ en ≤ b ∧ mid ≤ en := by
            have := HS0.out; have := HR0.out
            split at * <;> omega
          have w1 : (mid : Int) + (m : Int) - (i : Int) = (en : Int) := by omega
          have HSPL := hide (fun (r : Array (α × Nat)) (hr : ∀ x, r[x]! = rotV d i m en x) (hrs : r.size = d.size) => split_parts HSW.out HP.out HMID.out HS0.out HR0.out hi hj (fun h3 => by have h4 := HLO.out (i - 1) (by omega) (by omega); rwa [show mid + m - 1 - (i - 1) = mid + m - i by omega] at h4) (fun h3 => by have h4 := HHI.out i (Nat.le_refl _) h3; rwa [show mid + m - 1 - i = mid + m - i - 1 by omega] at h4) (by rw [← hen]; exact hr) hrs)
          rw [← hen] at HSPL
          clear hen
          by_cases hrot : i < m ∧ m < en
          · have C := rotate_any L enc HK.out H1.out (.func (.func g) #[] cb) blk off cap i m en dk wq (by rw [HQ.out]; exact SW_holds HH.out hblk q dk os hS) (by rw [HQ.out]; exact SW_lt hblk q dk os) hrot.1 hrot.2 (by omega) (by omega)
            rw [hS] at C
            go_wp2_with fail
            refine C.mono ?_
            rintro e w2 ⟨rfl, q1, os1, r1, hw2, hp1, hv1⟩
            rw [HQ.out, SW_again enc k w blk off q q1 dk r1 os os1 hblk hp1.1] at hw2
            rw [HD.out] at hp1 hv1
            obtain ⟨p1, p2, p3⟩ := HSPL.out r1 hv1 hp1.1
            have HP1 := hide p1
            have HP2 := hide p2
            have HCR := hide p3
            have HPM := hide (permIn_mono d r1 i en a b (by omega) (by omega) hb hp1)
            generalize q + q1 = q1 at hw2
            generalize os ++ os1 = os1 at hw2
            clear HQ hp1 hv1 p1 p2 p3 C HD hS HSPL
            have HQ := hide hw2
            clear hw2
            generalize w2 = wq at *
            have hS1 : r1.size = d.size := HPM.out.1
            by_cases hc1 : a < i ∧ i < mid
            · have C := HIH.out a i mid r1 wq (by omega) (by rw [hS1, HQ.out]; exact cmp_again HC.out hblk q1 r1 os1 hS1) (by rw [HQ.out]; exact SW_holds HH.out hblk q1 r1 os1 hS1) (by rw [HQ.out]; exact SW_lt hblk q1 r1 os1) hc1.1 hc1.2 (by omega) (by omega) HP1.out
              rw [hS1] at C
              go_wp2_with fail
              all_goals
                refine C.mono ?_
                rintro e w3 ⟨rfl, q3, r3, os3, hw3, hp3, ht3⟩
                rw [HQ.out, SW_again enc k w blk off q1 q3 r1 r3 os1 os3 hblk hp3.1] at hw3
                have HP3 := hide hp3
                have HT3 := hide ht3
                generalize q1 + q3 = q3 at hw3
                generalize os1 ++ os3 = os3 at hw3
                clear HQ
                have HQ := hide hw3
                clear hw3 hp3 ht3 C
                generalize w3 = wq at *
                have hS3 : r3.size = d.size := HP3.out.1.trans hS1
                have HP2' := hide (Parts.out HP2.out (fun x hx => HP3.out.2.1 x (.inr hx)) HP3.out.1)
                by_cases hc2 : mid < en ∧ en < b
                · have C := HIH.out mid en b r3 wq (by omega) (by rw [hS3, HQ.out]; exact cmp_again HC.out hblk q3 r3 os3 hS3) (by rw [HQ.out]; exact SW_holds HH.out hblk q3 r3 os3 hS3) (by rw [HQ.out]; exact SW_lt hblk q3 r3 os3) hc2.1 hc2.2 (by omega) (by omega) HP2'.out
                  rw [hS3] at C
                  go_wp2_with fail
                  all_goals
                    refine C.mono ?_
                    rintro e w4 ⟨rfl, q4, r4, os4, hw4, hp4, ht4⟩
                    rw [HQ.out, SW_again enc k w blk off q3 q4 r3 r4 os3 os4 hblk hp4.1] at hw4
                    have HW4 := hide hw4
                    have HP4 := hide hp4
                    have HT4 := hide ht4
                    clear hw4 hp4 ht4 C
                    go_wp2
                    all_goals
                      go_end0
                      obtain ⟨j1, j2⟩ := join_sorted (lt := ltF cf0) (by omega) (by omega) (by omega) HCR.out HP3.out HT3.out HP4.out HT4.out
                      exact ⟨rfl, _, r4, _, HW4.out, permIn_trans _ _ _ _ _ HPM.out j2, j1⟩
                · have hc2' : ¬ ((mid : Int) < (en : Int)) ∨ ¬ ((en : Int) < (b : Int)) := by omega
                  rcases hc2' with hc2' | hc2'
                  all_goals
                    go_wp2
                    all_goals
                      go_end0
                      obtain ⟨j1, j2⟩ := join_sorted (lt := ltF cf0) (by omega) (by omega) (by omega) HCR.out HP3.out HT3.out (permIn_refl r3 mid b) (Parts.whole HP2'.out (by omega))
                      exact ⟨rfl, _, r3, _, HQ.out, permIn_trans _ _ _ _ _ HPM.out j2, j1⟩
            · have hc1' : ¬ ((a : Int) < (i : Int)) ∨ ¬ ((i : Int) < (mid : Int)) := by omega
              obtain ⟨r3, hr3⟩ : ∃ r3, r3 = r1 := ⟨_, rfl⟩
              obtain ⟨q3, hq3⟩ : ∃ q3, q3 = q1 := ⟨_, rfl⟩
              obtain ⟨os3, ho3⟩ : ∃ os3, os3 = os1 := ⟨_, rfl⟩
              have HP3 : Hid (PermIn a mid r1 r3) := by show PermIn a mid r1 r3; rw [hr3]; exact permIn_refl r1 a mid
              have HT3 : Hid (TS (ltF cf0) a mid r3) := by show TS (ltF cf0) a mid r3; rw [hr3]; exact Parts.whole HP1.out (by omega)
              have HQ0 := HQ
              clear HQ
              have HQ : Hid (wq = SW enc k w blk off q3 r3 os3) := by show _ = _; rw [hr3, hq3, ho3]; exact HQ0.out
              clear hr3 hq3 ho3
              rcases hc1' with hc1' | hc1'
              all_goals
                have hS3 : r3.size = d.size := HP3.out.1.trans hS1
                have HP2' := hide (Parts.out HP2.out (fun x hx => HP3.out.2.1 x (.inr hx)) HP3.out.1)
                by_cases hc2 : mid < en ∧ en < b
                · have C := HIH.out mid en b r3 wq (by omega) (by rw [hS3, HQ.out]; exact cmp_again HC.out hblk q3 r3 os3 hS3) (by rw [HQ.out]; exact SW_holds HH.out hblk q3 r3 os3 hS3) (by rw [HQ.out]; exact SW_lt hblk q3 r3 os3) hc2.1 hc2.2 (by omega) (by omega) HP2'.out
                  rw [hS3] at C
                  go_wp2_with fail
                  all_goals
                    refine C.mono ?_
                    rintro e w4 ⟨rfl, q4, r4, os4, hw4, hp4, ht4⟩
                    rw [HQ.out, SW_again enc k w blk off q3 q4 r3 r4 os3 os4 hblk hp4.1] at hw4
                    have HW4 := hide hw4
                    have HP4 := hide hp4
                    have HT4 := hide ht4
                    clear hw4 hp4 ht4 C
                    go_wp2
                    all_goals
                      go_end0
                      obtain ⟨j1, j2⟩ := join_sorted (lt := ltF cf0) (by omega) (by omega) (by omega) HCR.out HP3.out HT3.out HP4.out HT4.out
                      exact ⟨rfl, _, r4, _, HW4.out, permIn_trans _ _ _ _ _ HPM.out j2, j1⟩
                · have hc2' : ¬ ((mid : Int) < (en : Int)) ∨ ¬ ((en : Int) < (b : Int)) := by omega
                  rcases hc2' with hc2' | hc2'
                  all_goals
                    go_wp2
                    all_goals
                      go_end0
                      obtain ⟨j1, j2⟩ := join_sorted (lt := ltF cf0) (by omega) (by omega) (by omega) HCR.out HP3.out HT3.out (permIn_refl r3 mid b) (Parts.whole HP2'.out (by omega))
                      exact ⟨rfl, _, r3, _, HQ.out, permIn_trans _ _ _ _ _ HPM.out j2, j1⟩
          · have hid : ∀ x, d[x]! = rotV d i m en x := fun x => by
              unfold rotV
              repeat' split
              all_goals first | rfl | (exfalso; omega) | (congr 1; omega)
            obtain ⟨p1, p2, p3⟩ := HSPL.out d hid rfl
            obtain ⟨r1, hr1⟩ : ∃ r1, r1 = d := ⟨_, rfl⟩
            rw [← hr1] at p1 p2 p3
            have HPM : Hid (PermIn a b d r1) := by show PermIn a b d r1; rw [hr1]; exact permIn_refl d a b
            have HP1 := hide p1
            have HP2 := hide p2
            have HCR := hide p3
            have HQ0 := HQ
            clear HQ
            have HQ : Hid (wq = SW enc k w blk off q r1 os) := by show _ = _; rw [hr1, ← HD.out]; exact HQ0.out
            clear HQ0 p1 p2 p3 hid HD hS HSPL hr1
            generalize q = q1 at *
            generalize os = os1 at *
            have hrot' : ¬ ((i : Int) < (m : Int)) ∨ ¬ ((m : Int) < (en : Int)) := by omega
            rcases hrot' with hrot' | hrot'
            all_goals
              have hS1 : r1.size = d.size := HPM.out.1
              by_cases hc1 : a < i ∧ i < mid
              · have C := HIH.out a i mid r1 wq (by omega) (by rw [hS1, HQ.out]; exact cmp_again HC.out hblk q1 r1 os1 hS1) (by rw [HQ.out]; exact SW_holds HH.out hblk q1 r1 os1 hS1) (by rw [HQ.out]; exact SW_lt hblk q1 r1 os1) hc1.1 hc1.2 (by omega) (by omega) HP1.out
                rw [hS1] at C
                go_wp2_with fail
                all_goals
                  refine C.mono ?_
                  rintro e w3 ⟨rfl, q3, r3, os3, hw3, hp3, ht3⟩
                  rw [HQ.out, SW_again enc k w blk off q1 q3 r1 r3 os1 os3 hblk hp3.1] at hw3
                  have HP3 := hide hp3
                  have HT3 := hide ht3
                  generalize q1 + q3 = q3 at hw3
                  generalize os1 ++ os3 = os3 at hw3
                  clear HQ
                  have HQ := hide hw3
                  clear hw3 hp3 ht3 C
                  generalize w3 = wq at *
                  have hS3 : r3.size = d.size := HP3.out.1.trans hS1
                  have HP2' := hide (Parts.out HP2.out (fun x hx => HP3.out.2.1 x (.inr hx)) HP3.out.1)
                  by_cases hc2 : mid < en ∧ en < b
                  · have C := HIH.out mid en b r3 wq (by omega) (by rw [hS3, HQ.out]; exact cmp_again HC.out hblk q3 r3 os3 hS3) (by rw [HQ.out]; exact SW_holds HH.out hblk q3 r3 os3 hS3) (by rw [HQ.out]; exact SW_lt hblk q3 r3 os3) hc2.1 hc2.2 (by omega) (by omega) HP2'.out
                    rw [hS3] at C
                    go_wp2_with fail
                    all_goals
                      refine C.mono ?_
                      rintro e w4 ⟨rfl, q4, r4, os4, hw4, hp4, ht4⟩
                      rw [HQ.out, SW_again enc k w blk off q3 q4 r3 r4 os3 os4 hblk hp4.1] at hw4
                      have HW4 := hide hw4
                      have HP4 := hide hp4
                      have HT4 := hide ht4
                      clear hw4 hp4 ht4 C
                      go_wp2
                      all_goals
                        go_end0
                        obtain ⟨j1, j2⟩ := join_sorted (lt := ltF cf0) (by omega) (by omega) (by omega) HCR.out HP3.out HT3.out HP4.out HT4.out
                        exact ⟨rfl, _, r4, _, HW4.out, permIn_trans _ _ _ _ _ HPM.out j2, j1⟩
                  · have hc2' : ¬ ((mid : Int) < (en : Int)) ∨ ¬ ((en : Int) < (b : Int)) := by omega
                    rcases hc2' with hc2' | hc2'
                    all_goals
                      go_wp2
                      all_goals
                        go_end0
                        obtain ⟨j1, j2⟩ := join_sorted (lt := ltF cf0) (by omega) (by omega) (by omega) HCR.out HP3.out HT3.out (permIn_refl r3 mid b) (Parts.whole HP2'.out (by omega))
                        exact ⟨rfl, _, r3, _, HQ.out, permIn_trans _ _ _ _ _ HPM.out j2, j1⟩
              · have hc1' : ¬ ((a : Int) < (i : Int)) ∨ ¬ ((i : Int) < (mid : Int)) := by omega
                obtain ⟨r3, hr3⟩ : ∃ r3, r3 = r1 := ⟨_, rfl⟩
                obtain ⟨q3, hq3⟩ : ∃ q3, q3 = q1 := ⟨_, rfl⟩
                obtain ⟨os3, ho3⟩ : ∃ os3, os3 = os1 := ⟨_, rfl⟩
                have HP3 : Hid (PermIn a mid r1 r3) := by show PermIn a mid r1 r3; rw [hr3]; exact permIn_refl r1 a mid
                have HT3 : Hid (TS (ltF cf0) a mid r3) := by show TS (ltF cf0) a mid r3; rw [hr3]; exact Parts.whole HP1.out (by omega)
                have HQ0 := HQ
                clear HQ
                have HQ : Hid (wq = SW enc k w blk off q3 r3 os3) := by show _ = _; rw [hr3, hq3, ho3]; exact HQ0.out
                clear hr3 hq3 ho3
                rcases hc1' with hc1' | hc1'
                all_goals
                  have hS3 : r3.size = d.size := HP3.out.1.trans hS1
                  have HP2' := hide (Parts.out HP2.out (fun x hx => HP3.out.2.1 x (.inr hx)) HP3.out.1)
                  by_cases hc2 : mid < en ∧ en < b
                  · have C := HIH.out mid en b r3 wq (by omega) (by rw [hS3, HQ.out]; exact cmp_again HC.out hblk q3 r3 os3 hS3) (by rw [HQ.out]; exact SW_holds HH.out hblk q3 r3 os3 hS3) (by rw [HQ.out]; exact SW_lt hblk q3 r3 os3) hc2.1 hc2.2 (by omega) (by omega) HP2'.out
                    rw [hS3] at C
                    go_wp2_with fail
                    all_goals
                      refine C.mono ?_
                      rintro e w4 ⟨rfl, q4, r4, os4, hw4, hp4, ht4⟩
                      rw [HQ.out, SW_again enc k w blk off q3 q4 r3 r4 os3 os4 hblk hp4.1] at hw4
                      have HW4 := hide hw4
                      have HP4 := hide hp4
                      have HT4 := hide ht4
                      clear hw4 hp4 ht4 C
                      go_wp2
                      all_goals
                        go_end0
                        obtain ⟨j1, j2⟩ := join_sorted (lt := ltF cf0) (by omega) (by omega) (by omega) HCR.out HP3.out HT3.out HP4.out HT4.out
                        exact ⟨rfl, _, r4, _, HW4.out, permIn_trans _ _ _ _ _ HPM.out j2, j1⟩
                  · have hc2' : ¬ ((mid : Int) < (en : Int)) ∨ ¬ ((en : Int) < (b : Int)) := by omega
                    rcases hc2' with hc2' | hc2'
                    all_goals
                      go_wp2
                      all_goals
                        go_end0
                        obtain ⟨j1, j2⟩ := join_sorted (lt := ltF cf0) (by omega) (by omega) (by omega) HCR.out HP3.out HT3.out (permIn_refl r3 mid b) (Parts.whole HP2'.out (by omega))
                        exact ⟨rfl, _, r3, _, HQ.out, permIn_trans _ _ _ _ _ HPM.out j2, j1⟩
end
end StabBat
end Go.Proofs.YtkcfalehebacpaaDoor

/- The library's stable sort of api.Batch: insertion (after the kit's slices.insertionSortCmpFunc at structs, which is proved over another program's text). -/
namespace Go.Proofs.YtkcfalehebacpaaDoor
open Go Go.Sort Go.RowKit Go.Lib Go.Shelf Go.Proofs
namespace StabBat
variable {P : Program} {α : Type} [Inhabited α]
section
variable {k : Nat} (L : Lay P k) (enc : α → List Value) (hk : ∀ x, (enc x).length = k) (h1 : ∀ x, ∀ v ∈ enc x, v.oneCell' = true)
include L hk h1
set_option maxHeartbeats 4000000 in
set_option maxRecDepth 1000000 in
theorem insertion_any (cf : α → α → Int) (g : Nat) (cb : Array Value) (blk off cap a b : Nat) (d : Array α) (w : World)
    (eg : ∀ args w, (callFunc g args).run P w = .ok (.enter g args) w) (hcmp : CmpLays P g cb enc k cf blk off d.size w) (hH : HoldsK enc k w blk off d) (hblk : blk < w.heap.size) (hab : a ≤ b) (hb : b ≤ d.size) (hsz : d.size < 4611686018427387904) :
    Calls P 56 #[.slice (some ⟨blk, off, none⟩) d.size cap, .int .i64 a, .int .i64 b, .func (.func g) #[] cb] w fun e w' =>
      e = .returned (.tuple #[]) ∧ ∃ n os, w' = sortWorldK enc k w blk off n (Sort.insertionSort (ltOf cf) d a b) os := by
  have mixed := L.mixed; have tS := L.tS; have aS := L.aS; have zS := L.zS; have vS := L.vS; have t3 := L.t3; have a3 := L.a3; have z3 := L.z3; have v3 := L.v3; have t4 := L.t4; have a4 := L.a4; have z4 := L.z4; have v4 := L.v4; have aE := L.aE; have zE := L.zE; have tU := L.tU; have aU := L.aU; have zU := L.zU; have vU := L.vU
  have uS := run_underlying L.tS
  have eIns := L.eIns; have eSwr := L.eSwr; have eRot := L.eRot; have eSym := L.eSym; have eStb := L.eStb
  have HC : Aside _ := hcmp
  have HST : Hid (w = sortWorldK enc k w blk off 0 d #[]) := by show w = _; unfold sortWorldK; rw [grow_empty]; exact (putRowK_self enc k w blk off d hH).symm
  have HH : Hid (HoldsK enc k w blk off d) := hH
  have HK : Hid (∀ x, (enc x).length = k) := hk
  have H1 : Hid (∀ x, ∀ v ∈ enc x, v.oneCell' = true) := h1
  clear hcmp hH hk h1
  go_enter L.fIns, Tryd.ntmps56
  go_wp2
  go_loopg [8] (b - a) (fun g1 vi wr => ∃ (i n : Nat) (dk : Array α) (os : Array Obj), vi = .int .i64 i ∧ a < i ∧ i ≤ b + 1 ∧ b + 1 - i ≤ g1 + 1 ∧ dk.size = d.size ∧ wr = sortWorldK enc k w blk off n dk os ∧ Hid (insOuter (ltOf cf) a b i dk = insOuter (ltOf cf) a b (a + 1) d))
  case atStart => exact ⟨a + 1, 0, d, #[], by go_num, by omega, by omega, by omega, rfl, HST.out, rfl⟩
  case round =>
    obtain ⟨i, n, dk, os, rfl, hai, hib, hg1, hsk, rfl, HO⟩ := hrel
    by_cases hlt : i < b
    · have hltz : (i : Int) < (b : Int) := by omega
      go_wp2
      -- the inner loop
      go_loopg [9] i (fun g2 vj wr2 => ∃ (j m : Nat) (dj : Array α) (oj : Array Obj), vj = .int .i64 j ∧ a ≤ j ∧ j ≤ i ∧ j ≤ g2 ∧ dj.size = d.size ∧ wr2 = sortWorldK enc k w blk off m dj oj ∧ Hid (insInner (ltOf cf) a j dj = insInner (ltOf cf) a i dk))
      case atStart => exact ⟨i, n, dk, os, rfl, by omega, Nat.le_refl _, Nat.le_refl _, hsk, rfl, rfl⟩
      case round =>
        obtain ⟨j, m, dj, oj, rfl, haj, hji, hg2, hsj, rfl, HI⟩ := hrel
        have out : (j ≤ a ∨ ltOf cf dj[j]! dj[j - 1]! = false) → Hid (insOuter (ltOf cf) a b (i + 1) dj = insOuter (ltOf cf) a b (a + 1) d) := fun hs => by
          show _ = _
          rw [← HO.out, insOuter_go _ _ _ _ _ hlt, ← HI.out, insInner_stop _ _ _ _ hs]
        have OUT : Aside _ := out
        clear out
        by_cases hja : a < j
        · have hjaz : (a : Int) < (j : Int) := by omega
          obtain ⟨jp, rfl⟩ : ∃ jp, j = jp + 1 := ⟨j - 1, by omega⟩
          obtain ⟨xj, hxj⟩ : ∃ x, dj[jp + 1]! = x := ⟨_, rfl⟩
          obtain ⟨xp, hxp⟩ : ∃ x, dj[jp]! = x := ⟨_, rfl⟩
          have hwp : IntKind.i64.wrap (jp : Int) = (jp : Int) := by rw [IntKind.wrap_i64]; omega
          have jz : (jp : Int) + 1 < (d.size : Int) := by omega
          have jz1 : (jp : Int) < (d.size : Int) := by omega
          have hjaz' : (a : Int) < (jp : Int) + 1 := by omega
          have p0 : (0 : Int) ≤ (jp : Int) + 1 := by omega
          have e0 : ((jp : Int) + 1).toNat = jp + 1 := by omega
          -- every world of the class is one of the sort's
          have hcls : ∀ n' os', grow ((sortWorldK enc k w blk off m dj oj).drewN n') os' = sortWorldK enc k w blk off (m + n') dj (oj ++ os') := fun n' os' => sortWorldK_grown_c enc k w blk off m n' dj oj os'
          have hHc : ∀ n' os', HoldsK enc k (grow ((sortWorldK enc k w blk off m dj oj).drewN n') os') blk off dj := fun n' os' => by rw [hcls]; exact holdsK_sortWorldK_c enc k w blk off d dj _ _ HH.out hblk hsj
          have lj : ∀ n' os', Sem.run P (loadCellsFrom ⟨blk, off + (jp + 1) * k, none⟩ 0 k #[]) (grow ((sortWorldK enc k w blk off m dj oj).drewN n') os') = .ok (enc xj).toArray (grow ((sortWorldK enc k w blk off m dj oj).drewN n') os') := fun n' os' => by
            rw [← hxj]; exact run_loadCellsFrom_list P _ _ _ k (HK.out _) (HoldsK.cells (hHc n' os') HK.out (by omega))
          have lp : ∀ n' os', Sem.run P (loadCellsFrom ⟨blk, off + jp * k, none⟩ 0 k #[]) (grow ((sortWorldK enc k w blk off m dj oj).drewN n') os') = .ok (enc xp).toArray (grow ((sortWorldK enc k w blk off m dj oj).drewN n') os') := fun n' os' => by
            rw [← hxp]; exact run_loadCellsFrom_list P _ _ _ k (HK.out _) (HoldsK.cells (hHc n' os') HK.out (by omega))
          have hcg : ∀ n' os', Calls P g (#[.agg (enc xj).toArray, .agg (enc xp).toArray] ++ cb) (grow ((sortWorldK enc k w blk off m dj oj).drewN n') os') fun e w' => e = .returned (.int .i64 (cf xj xp)) ∧ ∃ q os'', w' = grow ((grow ((sortWorldK enc k w blk off m dj oj).drewN n') os').drewN q) os'' := fun n' os' => by
            rw [hcls]; exact HC.out _ _ dj hsj xj xp
          have CLS : Hid _ := hcls
          clear hcls hHc
          generalize hwq : sortWorldK enc k w blk off m dj oj = wq at lj lp hcg CLS ⊢
          by_cases hlv : cf xj xp < 0
          · go_wp2_with fail
            go_quiet_grown (first | (go_at_fn g; refine Calls.grown_of (hcg _ _)))
            go_wp2_with fail
            have hw2 : grow (wq.drewN nq) osq = sortWorldK enc k w blk off (m + nq) dj (oj ++ osq) := CLS.out nq osq
            have hHd : HoldsK enc k (grow (wq.drewN nq) osq).drew blk off dj := by
              have : HoldsK enc k (grow (wq.drewN nq) osq) blk off dj := by rw [hw2]; exact holdsK_sortWorldK_c enc k w blk off d dj _ _ HH.out hblk hsj
              exact this
            have bnd : ∀ x, x < dj.size → x * k + k ≤ dj.size * k := fun x hx => by
              have := Nat.mul_le_mul_right k (show x + 1 ≤ dj.size from hx); rwa [Nat.add_mul, Nat.one_mul] at this
            clear lj lp hcg
            generalize grow (wq.drewN nq) osq = wq2 at hw2 hHd ⊢
            have lj2 : Sem.run P (loadCellsFrom ⟨blk, off + (jp + 1) * k, none⟩ 0 k #[]) wq2.drew = .ok (enc xj).toArray wq2.drew := by rw [← hxj]; exact run_loadCellsFrom_list P _ _ _ k (HK.out _) (HoldsK.cells hHd HK.out (by omega))
            have lp2 : Sem.run P (loadCellsFrom ⟨blk, off + jp * k, none⟩ 0 k #[]) wq2.drew = .ok (enc xp).toArray wq2.drew := by rw [← hxp]; exact run_loadCellsFrom_list P _ _ _ k (HK.out _) (HoldsK.cells hHd HK.out (by omega))
            have s1 : Sem.run P (storeCells ⟨blk, off + (jp + 1) * k, none⟩ (enc xp) 0) wq2.drew = .ok () (wq2.drew.setCells blk (off + (jp + 1) * k) (enc xp)) := stores_of_holds P hHd ((jp + 1) * k) _ (by rw [HK.out, size_flatK]; exact bnd (jp + 1) (by omega)) (H1.out _)
            have s2 : Sem.run P (storeCells ⟨blk, off + jp * k, none⟩ (enc xj) 0) (wq2.drew.setCells blk (off + (jp + 1) * k) (enc xp)) = .ok () ((wq2.drew.setCells blk (off + (jp + 1) * k) (enc xp)).setCells blk (off + jp * k) (enc xj)) :=
              stores_of_holds P (holds_setCells_c hHd ((jp + 1) * k) _ (by rw [HK.out, size_flatK]; exact bnd (jp + 1) (by omega))) (jp * k) _ (by rw [HK.out, size_setMany, size_flatK]; exact bnd jp (by omega)) (H1.out _)
            have hsJ : (enc xj).length = k := HK.out _
            have hsP : (enc xp).length = k := HK.out _
            have HW2 : Hid (wq2 = sortWorldK enc k w blk off (m + nq) dj (oj ++ osq)) := hw2
            clear hw2 hHd bnd
            obtain ⟨cJ, hcJ⟩ : ∃ c, c = enc xj := ⟨_, rfl⟩
            obtain ⟨cP, hcP⟩ : ∃ c, c = enc xp := ⟨_, rfl⟩
            rw [← hcP] at s1 lp2 hsP
            rw [← hcJ] at lj2 hsJ
            rw [← hcJ, ← hcP] at s2
            have CC : Hid (cJ = enc xj ∧ cP = enc xp) := ⟨hcJ, hcP⟩
            clear hcJ hcP
            go_big_region_o
            all_goals go_wp2
            go_roundg jp
            case measure => omega
            case rel =>
              refine ⟨jp, m + nq + 1, swp dj (jp + 1) jp, oj ++ osq, by first | rfl | go_num | (congr 1; omega), by omega, by omega, Nat.le_refl _, by rw [size_swp]; exact hsj, ?_, (show Hid _ from ?_)⟩
              · rw [CC.out.1, CC.out.2, HW2.out, ← hxp, ← hxj]
                exact sortWorldK_swp_c enc k w blk off HK.out (m + nq) dj (oj ++ osq) hblk (jp + 1) jp (by omega) (by omega)
              · show _ = _
                have := insInner_go (ltOf cf) a (jp + 1) dj hja (by simp only [Nat.add_sub_cancel]; rw [hxj, hxp]; exact decide_eq_true hlv)
                simp only [Nat.add_sub_cancel] at this
                rw [← HI.out, this]
          · -- not less: out of the inner loop
            go_wp2_with fail
            go_quiet_grown (first | (go_at_fn g; refine Calls.grown_of (hcg _ _)))
            go_wp2
            go_roundg (b - (i + 1))
            case measure => omega
            case rel => exact ⟨i + 1, _, dj, _, by go_num, by omega, by omega, by omega, hsj, CLS.out nq osq, OUT.out (Or.inr (by simp only [Nat.add_sub_cancel]; rw [hxj, hxp]; exact decide_eq_false (by omega)))⟩
        · -- j = a: out of the inner loop (the guard is false: 'cmp' is not called)
          have hjaz : decide ((j : Int) > (a : Int)) = false := decide_eq_false (by omega)
          have hjaz' : ¬ (a : Int) < (j : Int) := by omega
          have hdr : (sortWorldK enc k w blk off m dj oj).drew = sortWorldK enc k w blk off (m + 1) dj oj := rfl
          generalize hwq : sortWorldK enc k w blk off m dj oj = wq at hdr
          have HDR : Hid _ := hdr
          clear hdr
          go_wp2_with fail
          go_big_region_o
          all_goals go_wp2
          go_roundg (b - (i + 1))
          case measure => omega
          case rel => exact ⟨i + 1, m + 1, dj, oj, by go_num, by omega, by omega, by omega, hsj, HDR.out, OUT.out (Or.inl (by omega))⟩
    · have hltz : ¬ (i : Int) < (b : Int) := by omega
      go_wp2
      go_end0
      exact ⟨rfl, n, os, by unfold Sort.insertionSort; rw [← HO.out, insOuter_stop _ _ _ _ _ hlt]⟩
end
end StabBat
end Go.Proofs.YtkcfalehebacpaaDoor

/- The library's stable sort of api.Batch: the whole. -/
namespace Go.Proofs.YtkcfalehebacpaaDoor
open Go Go.Sort Go.RowKit Go.Lib Go.Shelf Go.Proofs
namespace StabBat
variable {P : Program}
section
variable {α : Type} [Inhabited α] {k : Nat} (L : Lay P k) (enc0 : α → List Value) (hk : ∀ x, (enc0 x).length = k) (h1 : ∀ x, ∀ v ∈ enc0 x, v.oneCell' = true) (cf0 : α → α → Int)
theorem ltOf_T {α : Type} (cf0 : α → α → Int) : ltOf (cfT cf0) = ltT (ltF cf0) := rfl
include L hk h1
-- one call of insertion: from place a to place b of dk, in the world wq; HQ; hpt: the tags from a on
theorem ins_step (hS : SWO (ltF cf0)) (g : Nat) (cb : Array Value) (blk off cap a b : Nat) (d dk : Array (α × Nat)) (w wq : World) (q : Nat) (os : Array Obj) (eg : ∀ args w, (callFunc g args).run P w = .ok (.enter g args) w)
    (hcmp : Cmp P g cb (encT enc0) k (cfT cf0) blk off d.size w) (hH : HoldsK (encT enc0) k w blk off d) (hblk : blk < w.heap.size) (hab : a ≤ b) (hb : b ≤ d.size) (hsz : d.size ≤ 1000000000) (hs : dk.size = d.size) (hq : wq = SW (encT enc0) k w blk off q dk os)
    (ht : ∀ p q, a ≤ p → p < q → q < b → dk[p]!.2 < dk[q]!.2) :
    Calls P 56 #[.slice (some ⟨blk, off, none⟩) d.size cap, .int .i64 a, .int .i64 b, .func (.func g) #[] cb] wq fun e w' =>
      e = .returned (.tuple #[]) ∧ ∃ q r os, w' = SW (encT enc0) k w blk off q r os ∧ PermIn a b dk r ∧ TS (ltF cf0) a b r := by
  have C := insertion_any L (encT enc0) (fun x => hk x.1) (fun x => h1 x.1) (cfT cf0) g cb blk off cap a b dk wq eg (by rw [hs, hq]; exact cmp_again hcmp hblk q dk os hs) (by rw [hq]; exact SW_holds hH hblk q dk os hs) (by rw [hq]; exact SW_lt hblk q dk os) hab (by omega) (by omega)
  rw [hs] at C
  refine C.mono ?_
  rintro e w' ⟨rfl, n, os', hw⟩
  obtain ⟨t1, t2⟩ := ins_sorted hS hab (by omega : b ≤ dk.size) ht
  rw [ltOf_T] at hw
  refine ⟨rfl, q + n, _, os ++ os', ?_, t2, t1⟩
  rw [hw, hq]
  exact SW_again (encT enc0) k w blk off q n dk _ os os' hblk t2.1
theorem merge_step (hS : SWO (ltF cf0)) (g : Nat) (cb : Array Value) (blk off cap a m b : Nat) (d dk : Array (α × Nat)) (w wq : World) (q : Nat) (os : Array Obj) (eg : ∀ args w, (callFunc g args).run P w = .ok (.enter g args) w)
    (hcmp : Cmp P g cb (encT enc0) k (cfT cf0) blk off d.size w) (hH : HoldsK (encT enc0) k w blk off d) (hblk : blk < w.heap.size) (ham : a < m) (hmb : m < b) (hb : b ≤ d.size) (hsz : d.size ≤ 1000000000) (hs : dk.size = d.size) (hq : wq = SW (encT enc0) k w blk off q dk os)
    (hP : Parts (ltF cf0) a m b dk) :
    Calls P 57 #[.slice (some ⟨blk, off, none⟩) d.size cap, .int .i64 a, .int .i64 m, .int .i64 b, .func (.func g) #[] cb] wq fun e w' =>
      e = .returned (.tuple #[]) ∧ ∃ q r os, w' = SW (encT enc0) k w blk off q r os ∧ PermIn a b dk r ∧ TS (ltF cf0) a b r := by
  have C := symMerge_any L enc0 hk h1 cf0 hS g cb blk off cap eg (b - a) a m b dk wq (Nat.le_refl _) (by rw [hs, hq]; exact cmp_again hcmp hblk q dk os hs) (by rw [hq]; exact SW_holds hH hblk q dk os hs) (by rw [hq]; exact SW_lt hblk q dk os) ham hmb (by omega) (by omega) hP
  rw [hs] at C
  refine C.mono ?_
  rintro e w' ⟨rfl, n, r, os', hw, hp, ht⟩
  refine ⟨rfl, q + n, r, os ++ os', ?_, hp, ht⟩
  rw [hw, hq]
  exact SW_again (encT enc0) k w blk off q n dk r os os' hblk hp.1
set_option maxHeartbeats 8000000 in
set_option maxRecDepth 1000000 in
theorem stable_any (hS : SWO (ltF cf0)) (g : Nat) (cb : Array Value) (blk off cap : Nat) (d : Array (α × Nat)) (w : World) (eg : ∀ args w, (callFunc g args).run P w = .ok (.enter g args) w)
    (hcmp : Cmp P g cb (encT enc0) k (cfT cf0) blk off d.size w) (hH : HoldsK (encT enc0) k w blk off d) (hblk : blk < w.heap.size) (hsz : d.size ≤ 1000000000) (ht : ∀ i, i < d.size → d[i]!.2 = i) :
    Calls P 47 #[.slice (some ⟨blk, off, none⟩) d.size cap, .int .i64 d.size, .func (.func g) #[] cb] w (Sorted_ (ltF cf0) (encT enc0) k w blk off 0 d.size d) := by
  have INS := hide (fun (a b : Nat) (dk : Array (α × Nat)) (wq : World) (q : Nat) (os : Array Obj) => ins_step L enc0 hk h1 cf0 hS g cb blk off cap a b d dk w wq q os eg hcmp hH hblk)
  have MRG := hide (fun (a m b : Nat) (dk : Array (α × Nat)) (wq : World) (q : Nat) (os : Array Obj) => merge_step L enc0 hk h1 cf0 hS g cb blk off cap a m b d dk w wq q os eg hcmp hH hblk)
  have HST : Hid (w = SW (encT enc0) k w blk off 0 d #[]) := SW_start hH
  have HT := hide ht
  obtain ⟨enc, henc⟩ : ∃ enc, enc = encT enc0 := ⟨_, rfl⟩
  rw [← henc] at INS MRG HST ⊢
  obtain ⟨n, hn⟩ : ∃ n, n = d.size := ⟨_, rfl⟩
  rw [← hn] at INS MRG hsz HT ⊢
  have HN := hide hn
  have mixed := L.mixed; have tS := L.tS; have aS := L.aS; have zS := L.zS; have vS := L.vS; have t3 := L.t3; have a3 := L.a3; have z3 := L.z3; have v3 := L.v3; have t4 := L.t4; have a4 := L.a4; have z4 := L.z4; have v4 := L.v4; have aE := L.aE; have zE := L.zE; have tU := L.tU; have aU := L.aU; have zU := L.zU; have vU := L.vU
  have uS := run_underlying L.tS
  have eIns := L.eIns; have eSwr := L.eSwr; have eRot := L.eRot; have eSym := L.eSym; have eStb := L.eStb
  clear hk h1 hcmp hH hS ht henc hn
  go_enter L.fStb, Tryd.ntmps47
  go_wp2
  go_loopg [7, 8] n (fun g1 va vb wr => ∃ (c a q : Nat) (os : Array Obj) (dk : Array (α × Nat)), va = .int .i64 a ∧ vb = .int .i64 ((a + 20 : Nat) : Int) ∧ a = c * 20 ∧ a ≤ n ∧ n - a ≤ g1 ∧ Hid (wr = SW enc k w blk off q dk os) ∧ Hid (BSt (ltF cf0) 20 0 a dk) ∧ Hid (PermIn 0 n d dk) ∧ Hid (BTg 20 n dk) ∧ Hid (∀ i, a ≤ i → i < n → dk[i]! = d[i]!))
  case atStart => exact ⟨0, 0, 0, #[], d, rfl, rfl, by omega, by omega, by omega, HST, hide fun i j h1 h2 h3 => by omega, hide (permIn_refl d 0 n), hide (BTg.one HT.out 20), hide fun i h1 h2 => rfl⟩
  case round =>
    obtain ⟨c, a, q, os, dk, rfl, rfl, ha, han, hg1, HQ, HB, HP, HG, HD⟩ := hrel
    have HA := hide ha
    clear ha
    generalize wr = wq at *
    have hs : dk.size = n := HP.out.1.trans HN.out.symm
    have htg : ∀ e, a ≤ e → e ≤ n → ∀ p q, a ≤ p → p < q → q < e → dk[p]!.2 < dk[q]!.2 := fun e _ h0 p q h1 h2 h3 => by
      rw [HD.out p h1 (by omega), HD.out q (by omega) (by omega), HT.out p (by omega), HT.out q (by omega)]; exact h2
    have HTG := hide htg
    clear htg
    by_cases hlt : a + 20 ≤ n
    · have C := INS.out a (a + 20) dk wq q os (by omega) (by omega) hsz hs HQ.out (HTG.out _ (by omega) hlt)
      go_wp2_with fail
      refine C.mono ?_
      rintro e w2 ⟨rfl, q2, r, os2, hw2, hp2, ht2⟩
      have HW2 := hide hw2
      have HP2 := hide hp2
      have HT2 := hide ht2
      clear hw2 hp2 ht2 C
      go_wp2
      go_roundg (n - (a + 20))
      case measure => omega
      case rel =>
        refine ⟨c + 1, a + 20, q2, os2, r, rfl, by go_num, by have := HA.out; omega, hlt, Nat.le_refl _, HW2, hide (BSt.step HA.out (by omega) (Nat.le_refl _) HB.out HP2.out HT2.out), hide (permIn_trans _ _ _ _ _ HP.out (permIn_mono _ _ a (a + 20) 0 n (by omega) hlt (by omega) HP2.out)), hide (BTg.step HA.out (Nat.le_refl _) hlt (by omega) HG.out HP2.out), hide fun i h1 h2 => ?_⟩
        rw [HP2.out.2.1 i (.inr h1)]; exact HD.out i (by omega) h2
    · have C := INS.out a n dk wq q os (by omega) (by omega) hsz hs HQ.out (HTG.out _ han (Nat.le_refl _))
      have hlt' : ¬ (((a + 20 : Nat) : Int) ≤ (n : Int)) := by omega
      go_wp2_with fail
      refine C.mono ?_
      rintro e w2 ⟨rfl, q2, r, os2, hw2, hp2, ht2⟩
      have HB2 : Hid (BSt (ltF cf0) 20 0 n r) := BSt.step HA.out (by omega) (by omega) HB.out hp2 ht2
      have HP3 : Hid (PermIn 0 n d r) := permIn_trans _ _ _ _ _ HP.out (permIn_mono _ _ a n 0 n (by omega) (Nat.le_refl _) (by omega) hp2)
      have HG2 : Hid (BTg 20 n r) := BTg.step HA.out (by omega) (Nat.le_refl _) (by omega) HG.out hp2
      have HW2 := hide hw2
      clear hw2 hp2 ht2 C HQ HB HP HG HD HTG hs
      go_wp2
      generalize w2 = wq at HW2
      go_loopg [6] n (fun g2 vs wr => ∃ (bs q : Nat) (os : Array Obj) (dk : Array (α × Nat)), vs = .int .i64 bs ∧ 20 ≤ bs ∧ bs ≤ 2 * n + 20 ∧ n - bs ≤ g2 ∧ Hid (wr = SW enc k w blk off q dk os) ∧ Hid (BSt (ltF cf0) bs 0 n dk) ∧ Hid (PermIn 0 n d dk) ∧ Hid (BTg bs n dk))
      case atStart => exact ⟨20, q2, os2, r, rfl, by omega, by omega, by omega, HW2, HB2, HP3, HG2⟩
      case round =>
        clear HW2 HB2 HP3 HG2 HA
        obtain ⟨bs, q, os, dk, rfl, hbs, hbs2, hg2, HQ, HB, HP, HG⟩ := hrel
        generalize wr = wq at *
        by_cases hlt2 : bs < n
        · go_wp2
          have hm2 : ((2 * bs : Nat) : Int) = 2 * (bs : Int) := by omega
          go_loopg [7, 8] n (fun g3 va vb wr => ∃ (c a q : Nat) (os : Array Obj) (dk : Array (α × Nat)), va = .int .i64 a ∧ vb = .int .i64 ((a + 2 * bs : Nat) : Int) ∧ a ≤ n ∧ n - a ≤ g3 ∧ Hid (a = c * (2 * bs)) ∧ Hid (wr = SW enc k w blk off q dk os) ∧ Hid (PermIn 0 n d dk) ∧ Hid (BSt (ltF cf0) (2 * bs) 0 a dk) ∧ Hid (∀ i j, a ≤ i → i < j → j < n → i / bs = j / bs → TL (ltF cf0) dk[i]! dk[j]!) ∧ Hid (BTg (2 * bs) n dk) ∧ Hid (∀ i, a ≤ i → i < n → dk[i]!.2 / bs = i / bs))
          case atStart => exact ⟨0, 0, q, os, dk, rfl, by go_num, by omega, by omega, hide (by omega), HQ, HP, hide fun i j h1 h2 h3 => by omega, hide fun i j h1 h2 h3 => HB.out i j (by omega) h2 h3, hide HG.out.half, hide fun i h1 h2 => HG.out i h2⟩
          case round =>
            clear HQ HB HP HG
            obtain ⟨c, a, q, os, dk, rfl, rfl, han, hg3, HA, HQ, HP, HB2, HB1, HG2, HG1⟩ := hrel
            generalize wr = wq at *
            have hs : dk.size = n := HP.out.1.trans HN.out.symm
            by_cases hlt : a + 2 * bs ≤ n
            · have hlt' : ((a + 2 * bs : Nat) : Int) ≤ (n : Int) := by omega
              have HPT := parts_of HA.out (e := a + 2 * bs) (by omega) (Nat.le_refl _) hlt (by omega) HB1.out HG1.out
              have C := MRG.out a (a + bs) (a + 2 * bs) dk wq q os (by omega) (by omega) hlt hsz hs HQ.out HPT
              have e1 : ((a + bs : Nat) : Int) = (a : Int) + (bs : Int) := by omega
              rw [e1] at C
              go_wp2_with fail
              refine C.mono ?_
              rintro e w2 ⟨rfl, q2, r, os2, hw2, hp2, ht2⟩
              have HW2 := hide hw2
              have HP2 := hide hp2
              have HT2 := hide ht2
              clear hw2 hp2 ht2 C HPT e1
              go_wp2
              go_roundg (n - (a + 2 * bs))
              case measure => omega
              case rel =>
                refine ⟨c + 1, a + 2 * bs, q2, os2, r, rfl, by go_num, hlt, Nat.le_refl _, hide (by rw [Nat.add_mul, ← HA.out, Nat.one_mul]), HW2, hide (permIn_trans _ _ _ _ _ HP.out (permIn_mono _ _ a (a + 2 * bs) 0 n (by omega) hlt (by omega) HP2.out)), hide (BSt.step HA.out (by omega) (Nat.le_refl _) HB2.out HP2.out HT2.out), hide fun i j h1 h2 h3 h4 => ?_, hide (BTg.step HA.out (Nat.le_refl _) hlt (by omega) HG2.out HP2.out), hide fun i h1 h2 => ?_⟩
                · rw [HP2.out.2.1 i (.inr h1), HP2.out.2.1 j (.inr (by omega))]; exact HB1.out i j (by omega) h2 h3 h4
                · rw [HP2.out.2.1 i (.inr h1)]; exact HG1.out i (by omega) h2
            · have hlt' : ¬ (((a + 2 * bs : Nat) : Int) ≤ (n : Int)) := by omega
              by_cases hm : a + bs < n
              · have HPT := parts_of HA.out (e := n) hm (by omega) (Nat.le_refl _) (by omega) HB1.out HG1.out
                have C := MRG.out a (a + bs) n dk wq q os (by omega) hm (Nat.le_refl _) hsz hs HQ.out HPT
                have e1 : ((a + bs : Nat) : Int) = (a : Int) + (bs : Int) := by omega
                rw [e1] at C
                go_wp2_with fail
                refine C.mono ?_
                rintro e w2 ⟨rfl, q2, r, os2, hw2, hp2, ht2⟩
                have HW2 := hide hw2
                have HP2 := hide hp2
                have HT2 := hide ht2
                clear hw2 hp2 ht2 C HPT e1
                go_wp2
                go_roundg (n - 2 * bs)
                case measure => omega
                case rel =>
                  exact ⟨2 * bs, q2, os2, r, by go_num, by omega, by omega, Nat.le_refl _, HW2, hide (BSt.step HA.out (by omega) (by omega) HB2.out HP2.out HT2.out), hide (permIn_trans _ _ _ _ _ HP.out (permIn_mono _ _ a n 0 n (by omega) (Nat.le_refl _) (by omega) HP2.out)), hide (BTg.step HA.out (by omega) (Nat.le_refl _) (by omega) HG2.out HP2.out)⟩
              · go_wp2
                go_roundg (n - 2 * bs)
                case measure => omega
                case rel =>
                  exact ⟨2 * bs, q, os, dk, by go_num, by omega, by omega, Nat.le_refl _, HQ, hide (BSt.rest HA.out (by omega) HB2.out HB1.out), HP, HG2⟩
        · go_wp2
          go_end0
          exact ⟨rfl, q, dk, os, HQ.out, HP.out, BSt.all HB.out (by omega)⟩
set_option maxHeartbeats 2000000 in
/-- THE CONTRACT of slices.SortStableFunc -/
theorem sortStable_any (hS : SWO (ltF cf0)) (g : Nat) (cb : Array Value) (blk off cap : Nat) (d : Array (α × Nat)) (w : World) (eg : ∀ args w, (callFunc g args).run P w = .ok (.enter g args) w)
    (hcmp : Cmp P g cb (encT enc0) k (cfT cf0) blk off d.size w) (hH : HoldsK (encT enc0) k w blk off d) (hblk : blk < w.heap.size) (hsz : d.size ≤ 1000000000) (ht : ∀ i, i < d.size → d[i]!.2 = i) :
    Calls P 33 #[.slice (some ⟨blk, off, none⟩) d.size cap, .func (.func g) #[] cb] w (Sorted_ (ltF cf0) (encT enc0) k w blk off 0 d.size d) := by
  have C := stable_any L enc0 hk h1 cf0 hS g cb blk off cap d w eg hcmp hH hblk hsz ht
  generalize d.size = n at *
  have mixed := L.mixed; have tS := L.tS; have aS := L.aS; have zS := L.zS; have vS := L.vS; have t3 := L.t3; have a3 := L.a3; have z3 := L.z3; have v3 := L.v3; have t4 := L.t4; have a4 := L.a4; have z4 := L.z4; have v4 := L.v4; have aE := L.aE; have zE := L.zE; have tU := L.tU; have aU := L.aU; have zU := L.zU; have vU := L.vU
  have uS := run_underlying L.tS
  have eIns := L.eIns; have eSwr := L.eSwr; have eRot := L.eRot; have eSym := L.eSym; have eStb := L.eStb
  clear hk h1 hcmp hH hS ht
  go_enter L.fTop, Tryd.ntmps33
  go_wp2_with fail
  refine C.mono ?_
  rintro e w2 ⟨rfl, h⟩
  have HH := hide h
  clear h C
  go_wp2
  go_end0
  exact ⟨rfl, HH.out⟩
end
end StabBat
end Go.Proofs.YtkcfalehebacpaaDoor
