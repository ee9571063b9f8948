/- Shortage of package night: the walk. -/
import Derived.Test.YtkcfalehebacpaaNShort1
import Derived.Test.YtkcfalehebacpaaNPlan
import Derived.Test.YtkcfalehebacpaaNLaw3
import Derived.Test.YtkcfalehebacpaaSortL
import Derived.Sort.OwnSortedInts
namespace Go.Proofs.Ytkcfalehebacpaa
open Go Go.RowKit
theorem chg_grown {w w' : World} {g : Nat} (h : Chg (fun k => k = g) w w') : w.grownBy w' (some g) := ⟨h.os, h.tape, h.output, h.size, fun k hk hne => h.block k hk fun he => hne (by rw [he])⟩
theorem grown_below {w w' : World} {B : Nat} {row : Option Nat} (h : w.grownBy w' row) (hr : ∀ b, row = some b → B ≤ b) (hB : B ≤ w.heap.size) : Below B w w' := ⟨h.os, h.tape, h.output, h.size, fun k hk => h.block k (Nat.lt_of_lt_of_le hk hB) fun he => by have := hr k he.symm; omega⟩
theorem ownBlock_slice (A : Option Addr) (n c : Nat) : (Value.slice A n c).ownBlock = A.map (·.block) := by cases A <;> rfl
theorem que_ge {w : World} {base : Nat} {e : TypeId} {v : Value} {l : List Int} (h : Que w base e v l) : ∀ b, v.ownBlock = some b → base ≤ b ∧ b < w.heap.size := fun b hb => by
  rcases h with ⟨A, rfl, rfl, h⟩ | ⟨g, off, c, js, rfl, h2, h3, _⟩
  · rw [ownBlock_slice] at hb
    exact h b hb
  · injection hb with hb
    have : g = b := hb
    subst this; exact ⟨h2, h3.lt⟩
theorem own_kept {α : Type} {w w' : World} {base : Nat} {e : TypeId} {sz : Nat} {f : α → List Value} {v : Value} {l : List α} {row : Option Nat} (h : Own w base e sz f v l) (hg : w.grownBy w' row) (hr : ∀ b, v.ownBlock = some b → row ≠ some b) : Own w' base e sz f v l :=
  World.ownsRow.kept h hg (by
    cases hv : v.ownBlock with
    | none => exact .inl rfl
    | some q => exact .inr fun he => hr q hv he.symm)
theorem index_n (A : Option Addr) (c B : Nat) (l : List Int) (v : Int) (w : World) {n : Nat} (hn : l.length = n) (hl : l.length ≤ 100000) (hS : Slc intEnc 1 w B A l) :
    Calls Try.prog 30 #[.slice A n c, .int .i64 v] w (IndexPost l v w) := by
  subst hn; exact index_any A c B l v w hl hS
theorem bools_size (l : List Bool) : (bools l).size = l.length := by unfold bools; simp
def lenV : Value → Nat
  | .slice _ n _ => n
  | _ => 0
def apartV (q o : Value) : Prop := ∀ b, q.ownBlock = some b → o.ownBlock ≠ some b
/-- behind the sort the list is in order -/
theorem sorted_own {w : World} {base : Nat} {e : TypeId} {A : Option Addr} {c : Nat} {l : List Int} (h : Own w base e 1 intEnc (.slice A l.length c) l) (hl : l ≠ []) :
    ∃ g, A = some ⟨g, 0, none⟩ ∧ base ≤ g ∧ g < w.heap.size ∧ Go.Sort.Holds (Value.int .i64) w g 0 l.toArray ∧ ∀ n os (w' : World), w' = Go.Sort.grow (Go.Sort.putRow (Value.int .i64) (Go.Sort.ahead w n) g 0 (sortI l).toArray) os → w.grownBy w' (some g) ∧ Slc intEnc 1 w' w'.heap.size A (sortI l) := by
  rcases h.2 with ⟨_, h2⟩ | ⟨g, cap, cur, h1, h2, h3, h4, h5, h6, h7⟩
  · exact absurd (List.length_eq_zero_iff.1 h2) hl
  · injection h1 with h1 _ hc
    subst h1
    have hm : cur.toList.take l.length = l.map (Value.int .i64) := by rw [map_flat, ← h7, Nat.mul_one]
    refine ⟨g, rfl, h2, (Array.getElem?_eq_some_iff.1 h3).1, holds_of_blockI h3 hm, fun n os w' hw => ?_⟩
    subst hw
    have hs : (sortI l).length = l.length := List.length_mergeSort _
    refine ⟨grownBy_sortedI _, ?_⟩
    have ho := ownsRow_sortedI (base := base) (n := n) (os := os) (ss := l) (ts := sortI l) (cap := cap) hs h2 h3 h4 h5 (by rw [h6])
    have ho2 : Own (Go.Sort.grow (Go.Sort.putRow (Value.int .i64) (Go.Sort.ahead w n) g 0 (sortI l).toArray) os) base e 1 intEnc (.slice (some ⟨g, 0, none⟩) l.length cap) (sortI l) := by
      show World.ownsRow _ _ _ _ _ _ _
      rw [hs, ← map_flat]
      exact ho
    obtain ⟨A', c', e1, S⟩ := ho2.form (fun _ => rfl)
    injection e1 with e1 _ _
    rw [e1]; exact S
/-- what Shortage returns -/
def ShortPost (js : List Job) (ns : List Nit) (w : World) (e : Ending) (w' : World) : Prop :=
  ∃ A c L b, e = .returned (.tuple #[.slice A L.length c, .bool b, .int .i64 (wrongF js ns)]) ∧ Below w.heap.size w w' ∧ Slc intEnc 1 w' w'.heap.size A L ∧ L.length ≤ 1000 ∧ (b = false → L = []) ∧ (b = true → isSh js ns L = true ∧ wrongF js ns = 0) ∧ (b = false → wrongF js ns = 0 → IsMost (chooseL ns js) (capOf ns) js.length)
set_option maxRecDepth 100000 in
set_option maxHeartbeats 8000000 in
theorem shortage_any (AJ : Option Addr) (cJ : Nat) (js : List Job) (AN : Option Addr) (cN : Nat) (ns : List Nit) (w : World) (hJ : Slc Job.enc 8 w w.heap.size AJ js) (hN : Slc Nit.enc 8 w w.heap.size AN ns) (hl1 : js.length ≤ 1000) (hl2 : ns.length ≤ 1000) :
    Calls Try.prog 10 #[.slice AJ js.length cJ, .slice AN ns.length cN] w (ShortPost js ns w) := by
  go_enter Try.func10, Try.ntmps10
  go_wp2_with fail
  refine (checked_any AJ cJ js AN cN ns w hJ hN hl1 hl2).mono ?_
  rintro e W ⟨rfl, hB⟩
  rcases wrong_cases js ns with h0 | h0 | h0
  · have HW := hide h0
    rw [h0]
    clear h0
    go_wp2_with fail
    go_ret3
    exact ⟨none, 0, [], false, by rw [HW.out]; rfl, hB, Slc.nil_, Nat.zero_le _, fun _ => rfl, (fun h => by cases h), fun _ h => by have h2 := HW.out; omega⟩
  · have HW := hide h0
    rw [h0]
    clear h0
    go_wp2_with fail
    go_ret3
    exact ⟨none, 0, [], false, by rw [HW.out]; rfl, hB, Slc.nil_, Nat.zero_le _, fun _ => rfl, (fun h => by cases h), fun _ h => by have h2 := HW.out; omega⟩
  obtain ⟨_, f1, f2, f3⟩ := wrong_facts h0
  have HW := hide h0
  rw [h0]
  clear h0
  go_wp2_with fail
  refine (choices_any AJ cJ js AN cN ns W ((hJ.below hB).more hB.size) ((hN.below hB).more hB.size) hl1 hl2).mono ?_
  rintro e W1 ⟨AC, cC, rfl, hB1, hNest⟩
  go_wp2_with fail
  refine (most_any AC cC (chooseL ns js) AN cN ns W1 hNest ((hN.below (hB.trans (hB1.mono hB.size))).more (Nat.le_trans hB.size hB1.size)) (by unfold chooseL; rw [List.length_map]; omega) (by omega) (chooseL_rows ns js (by omega)) (chooseL_ok ns js) (cap_ok f3)).mono ?_
  rintro e W2 ⟨g, bp, bn, cP, cN, N, P, rfl, hM, hB2, hg1, hg2, hg3, hV, hSt⟩
  have hBB : Below w.heap.size w W2 := (hB.trans (hB1.mono hB.size)).trans (hB2.mono (Nat.le_trans hB.size hB1.size))
  have hCl : (chooseL ns js).length = js.length := choose_len js ns
  have hNl : N.length = js.length := by rw [← hV.sh.cl]; exact hCl
  have HVM := hide hV
  have HST := hide hSt
  have HCR := hide (chooseL_rows ns js (by omega))
  have HCL := hide (And.intro hCl hNl)
  have hmb := hM.blk
  obtain ⟨jn, hmn⟩ := hM.night
  have HCH := hide hM.ch
  have hW1 := hB2.size
  clear hV hSt hM hB hB1 hB2 hNest hg1 hg2 hg3 f3
  by_cases hall : doneN N = js.length
  · have hall' : ((doneN N : Int) == (js.length : Int)) = true := by simp [hall]
    have HMO : Hid (IsMost (chooseL ns js) (capOf ns) js.length) := ⟨⟨N, HVM.out.pl_, hall⟩, fun M hM => by have := (pl_short hM).2; rw [hCl] at this; exact this⟩
    clear hall hmb hmn hCl hNl
    go_wp2_with fail
    go_ret3
    exact ⟨none, 0, [], false, by rw [HW.out]; rfl, hBB, Slc.nil_, Nat.zero_le _, fun _ => rfl, (fun h => by cases h), fun _ _ => HMO.out⟩
  have hex : (-1 : Int) ∈ N := by
    refine Classical.byContradiction fun hno => hall ?_
    have h1 := (pl_short HVM.out.pl_)
    rw [hCl] at h1
    have h2 := mt h1.1.1 hno
    have := h1.2
    omega
  have hall' : ((doneN N : Int) == (js.length : Int)) = false := by simp; omega
  have hmk : ∀ w, (Instr.makeSlice 77 (.int .i64 js.length) (.int .i64 js.length)).run Try.prog w = .ok (.slice (some ⟨w.heap.size, 0, none⟩) js.length js.length) (w.alloc (.cells (bools (List.replicate js.length false)) 4)) := fun w => by
    have := run_make1 (P := Try.prog) (bytes := 1) (z := .bool false) Try.underlying77 (by kernel_rfl) rfl (by omega) js.length (by omega) w
    have e : (List.replicate js.length (Value.bool false)).toArray = bools (List.replicate js.length false) := by unfold bools; simp
    rw [← e]; exact this
  clear hall
  go_upto_region 8 with fail
  clear hmk hall'
  have hin := Blk.new W2 4 (bools (List.replicate js.length false))
  have hB := (Below.refl W2.heap.size W2).alloc (Nat.le_refl _) (.cells (bools (List.replicate js.length false)) 4)
  have hsz : (W2.alloc (.cells (bools (List.replicate js.length false)) 4)).heap.size = W2.heap.size + 1 := by simp
  generalize W2.alloc (.cells (bools (List.replicate js.length false)) 4) = W at *
  have HSZ0 := hide hsz
  clear hsz
  have hbl : g < W2.heap.size := hmb.lt
  have hnl2 : bn < W2.heap.size := hmn.lt
  replace hmb := hmb.below hB hbl
  replace hmn := hmn.below hB hnl2
  have hCHW : ∀ w' : World, Below W2.heap.size W2 w' → NestIn (fun b => b < W1.heap.size) w' AC (chooseL ns js) := fun w' hb => HCH.out.wit hb fun b hb => by omega
  have HCW := hide hCHW
  have hjl : 1 ≤ js.length := by
    obtain ⟨i, hi⟩ := List.getElem?_of_mem hex
    have := (List.getElem?_eq_some_iff.1 hi).1
    omega
  have HW1 := hide hW1
  clear hCHW hW1
  rw [show N.length = js.length from hNl] at hmb
  clear hCl hNl
  have m0 := hmb.cell_ 0 rfl
  have m2 := hmb.cell_ 2 rfl
  go_wp2_with fail
  refine (index_n (some ⟨bn, 0, none⟩) cN W.heap.size N (-1) W HCL.out.2 (by have := HCL.out.2; omega) (intJ_slc hmn)).mono ?_
  rintro e W' ⟨rfl, ⟨rfl, hno⟩ | ⟨j0, rfl, hj0, _⟩⟩
  · exact absurd hex hno
  have hj0l : j0 < js.length := by rw [← HCL.out.2]; exact (List.getElem?_eq_some_iff.1 hj0).1
  obtain ⟨Z, hZ, hZg⟩ := HST.out j0 (by rw [HCL.out.1]; exact hj0l) hj0
  have HZ := hide hZ
  have HSO := hide (WaySo.start (P := P) hj0 hZg)
  have HJ0 := hide hj0
  have hji : (j0 : Int) < (js.length : Int) := by omega
  clear hex hj0 hZ hZg HST
  clear m0 m2
  go_upto_region 10 with (at_builtin; (refine wpList_que_app (base := W2.heap.size + 1) _ _ rfl rfl et_ints Que.nil_ rfl rfl (y := (j0 : Int)) ((Blk.new W 3 #[.int .i64 j0]).cell_ 0 rfl) rfl (by simp) (by have := HSZ0.out; simp; omega) ?_; intro v7 W3 q7 hg7 hv7))
  have hbT : Below W.heap.size W W3 := ((Below.refl W.heap.size W).alloc (Nat.le_refl _) (.cells #[.int .i64 j0] 3)).trans (grown_below (B := W.heap.size) hg7 (fun b h => by cases h) (by simp))
  replace hmb := hmb.below hbT hmb.lt
  replace hmn := hmn.below hbT hmn.lt
  replace hin := hin.below hbT hin.lt
  replace hB := hB.trans (hbT.mono hB.size)
  have hsz3 : W2.heap.size + 1 ≤ W3.heap.size := by have := hbT.size; have := HSZ0.out; omega
  clear hbT hg7 hv7 HSZ0
  obtain ⟨W, rfl⟩ : ∃ W : World, W = W3 := ⟨_, rfl⟩
  rw [List.nil_append] at q7
  obtain ⟨gq, oq, cq, rfl, hgq, hgql, hcq, q0, _⟩ := q7.head
  rw [show ([] : List Int).length + 1 = 1 from rfl]
  have HSZ : Hid (j0 < (bools (List.replicate js.length false)).size) := by show _ < _; rw [bools_size]; simpa using hj0l
  go_wp2_with (refine wpList_store_at rfl 4 _ _ rfl (.bool true) hin rfl rfl (by kernel_rfl) rfl HSZ.out rfl ?_; intro W4 hin4 hc4)
  rw [bools_set] at hin4
  have q8 : Que W4 (W2.heap.size + 1) 3 (.slice (some ⟨gq, oq, none⟩) 1 cq) [(j0 : Int)] := q7.kept (chg_grown hc4) fun b hb he => by
    have := que_ge q7 b hb
    injection he with he
    omega
  replace hmb := hmb.chg1 hc4 (by omega)
  replace hmn := hmn.chg1 hc4 (by omega)
  replace hB := hB.trans (hc4.below1 hB.size (Nat.le_refl _))
  have hsz4 : W2.heap.size + 1 ≤ W4.heap.size := by have := hc4.size; omega
  clear hin hc4 q7 q0 hgq hgql hcq HSZ hsz3 hj0l hji
  obtain ⟨W, rfl⟩ : ∃ W : World, W = W4 := ⟨_, rfl⟩
  rw [show js.length = N.length from HCL.out.2.symm] at hin4
  have hin := hin4
  clear hin4
  dsimp only [Act.put]
  go_loopw [11, 12] (fun qv ov W => ∃ (B : List Bool) (O Q : List Int), Que W (W2.heap.size + 1) 3 qv Q ∧ Own W (W2.heap.size + 1) 3 1 intEnc ov O ∧ apartV qv ov ∧ Hid (WaySo (chooseL ns js) N P j0 Z B O Q) ∧ W2.heap.size + 1 ≤ W.heap.size ∧ Blk W g 80 #[.slice AC (chooseL ns js).length cC, .slice (adr bp P) P.length cP, .slice (some ⟨bn, 0, none⟩) js.length cN] ∧ Blk W bn 3 (intJ N jn) ∧ Blk W W2.heap.size 4 (bools B) ∧ Below W2.heap.size W2 W) (fun qv ov _ => js.length - lenV ov)
  case atStart => exact ⟨_, [], [(j0 : Int)], q8, Own.nil_, fun b _ => by simp [Value.ownBlock], HSO, hsz4, hmb, hmn, hin, hB⟩
  case round =>
    clear hmb hmn hB hin q8 hsz4
    obtain ⟨W, rfl⟩ : ∃ W : World, W = wr := ⟨_, rfl⟩
    obtain ⟨B, O, Q, hQ, hO, hap, HS, hbs, hmb, hmn, hin, hB⟩ := hrel
    cases Q with
    | nil =>
      obtain ⟨AQ, cQ, rfl, _⟩ := hQ.form
      have HWY := hide (HS.out.way HZ.out HJ0.out)
      have hOne : O ≠ [] := by
        rintro rfl
        obtain ⟨j, h, _⟩ := HWY.out.root
        cases h
      obtain ⟨AO, cO, rfl, _⟩ := hO.form (fun _ => rfl)
      obtain ⟨go, rfl, hgo, hgol, hH, hSO⟩ := sorted_own hO hOne
      have hOl : O.length ≤ 1000 := by have := HS.out.few; have := HCL.out.2; omega
      go_wp2_with fail
      refine (sortInt_any go 0 cO O W hH hgol (by omega)).mono ?_
      rintro e W5 ⟨rfl, n, os, hw⟩
      obtain ⟨hgr, hS5⟩ := hSO n os W5 hw
      have hb5 : Below W2.heap.size W2 W5 := hB.trans (grown_below hgr (fun b h => by injection h; omega) (by omega))
      have hsl : (sortI O).length = O.length := List.length_mergeSort _
      have HE := hide hsl
      have HSH := hide (way_sorted HVM.out HWY.out)
      clear hw hSO hH hsl hO hap
      go_wp2_with fail
      go_ret3
      exact ⟨some ⟨go, 0, none⟩, cO, sortI O, true, by rw [HE.out, HW.out]; rfl, hBB.trans (hb5.mono hBB.size), hS5, by rw [HE.out]; exact hOl, fun h => (by cases h), fun _ => ⟨by unfold isSh; rw [if_pos HW.out]; exact HSH.out, HW.out⟩, fun h => (by cases h)⟩
    | cons v r =>
      have hfew := HS.out.few
      obtain ⟨gq, oq, cq, rfl, hgq, hgql, hcq, q0, hQ2, hdr⟩ := hQ.head
      rw [List.length_cons] at hfew
      obtain ⟨AO, cO, rfl, _⟩ := hO.form (fun _ => rfl)
      have hvb := HS.out.lt v (by simp)
      obtain ⟨j, rfl⟩ : ∃ j : Nat, v = (j : Int) := ⟨v.toNat, by omega⟩
      have hNl := HCL.out.2
      have hOl : O.length + r.length + 1 ≤ 1000 := by omega
      have hOlt : O.length < js.length := by omega
      have hjN : j < js.length := by omega
      have hsl : ∀ w, (Instr.sliceAt 26 (.slice (some ⟨gq, oq, none⟩) (r.length + 1) cq) (some (.int .i64 1)) none none).run Try.prog w = .ok (.slice (dropA (some ⟨gq, oq, none⟩) cq 1 1) r.length (cq - 1)) w := fun w => by
        have := run_slice_from et_ints (some ⟨gq, oq, none⟩) (r.length + 1) cq 1 (by omega) w
        simpa using this
      have HF := hide (And.intro hfew (And.intro hvb hNl))
      clear hfew hvb hNl
      have m0 := hmb.cell_ 0 rfl
      have m2 := hmb.cell_ 2 rfl
      go_upto_region 15 with (at_builtin; refine wpList_own_app1 (base := W2.heap.size + 1) (y := (j : Int)) _ _ rfl rfl et_ints (hO.alloc (.cells #[.int .i64 j] 3)) rfl rfl ((Blk.new W 3 #[.int .i64 j]).slc1 rfl) (fun _ => rfl) intEnc_one (by omega) (by simp; omega) ?_; intro v7 W3 o7 hg7 hv7)
      have hOge : ∀ b, (Value.slice AO O.length cO).ownBlock = some b → W2.heap.size + 1 ≤ b := fun b hb => (World.ownsRow.lt hO b hb).1
      have hbT : Below (W2.heap.size + 1) W W3 := ((Below.refl (W2.heap.size + 1) W).alloc hbs (.cells #[.int .i64 j] 3)).trans (grown_below hg7 hOge (by simp; omega))
      obtain ⟨qv, hqv⟩ : ∃ qv, qv = Value.slice (dropA (some ⟨gq, oq, none⟩) cq 1 1) r.length (cq - 1) := ⟨_, rfl⟩
      have hqo : ∀ b, qv.ownBlock = some b → b = gq := fun b hb => by
        rw [hqv, ownBlock_slice, hdr] at hb
        injection hb with hb
        exact hb.symm
      have Q3 : Que W3 (W2.heap.size + 1) 3 qv r := by
        rw [hqv]
        refine (hQ2.alloc _).kept hg7 fun b hb he => ?_
        rw [← hqv] at hb
        have := hqo b hb
        subst this
        exact hap b rfl he
      have hap3 : apartV qv v7 := fun b hb he => by
        have := hqo b hb
        subst this
        rcases hv7 b he with h | h
        · simp at h; omega
        · exact hap b rfl h
      rw [← hqv]
      have HAT := hide HS.out.at_
      clear m0 m2
      replace hmb := hmb.below hbT (by omega)
      replace hmn := hmn.below hbT (by omega)
      replace hin := hin.below hbT (by omega)
      replace hB := hB.trans (hbT.mono (Nat.le_succ _))
      replace hbs : W2.heap.size + 1 ≤ W3.heap.size := by have := hbT.size; omega
      clear hQ hQ2 hO hap hg7 hv7 hbT hOge hqv hqo hsl q0 hgq hgql hcq hdr HS
      obtain ⟨W, rfl⟩ : ∃ W : World, W = W3 := ⟨_, rfl⟩
      have m0 := hmb.cell_ 0 rfl
      have m2 := hmb.cell_ 2 rfl
      go_wp2_with fail
      clear m0 m2
      go_loopw [11, 67] (fun qq y W => ∃ (i : Nat) (B : List Bool) (R : List Int), y = .int .i64 i ∧ i ≤ js.length ∧ Que W (W2.heap.size + 1) 3 qq R ∧ apartV qq v7 ∧ Hid (WayAt (chooseL ns js) N P j0 Z B O R j i) ∧ W2.heap.size + 1 ≤ W.heap.size ∧ Blk W g 80 #[.slice AC (chooseL ns js).length cC, .slice (adr bp P) P.length cP, .slice (some ⟨bn, 0, none⟩) js.length cN] ∧ Blk W bn 3 (intJ N jn) ∧ Blk W W2.heap.size 4 (bools B) ∧ Own W (W2.heap.size + 1) 3 1 intEnc v7 (O ++ [(j : Int)]) ∧ Below W2.heap.size W2 W) (fun qq y _ => js.length - (intOf y).toNat)
      case atStart => exact ⟨0, B, r, rfl, Nat.zero_le _, Q3, hap3, HAT, hbs, hmb, hmn, hin, o7, hB⟩
      case round =>
        clear hmb hmn hin hB o7 Q3 hap3 HAT hbs
        clear B
        obtain ⟨W, rfl⟩ : ∃ W : World, W = wr := ⟨_, rfl⟩
        obtain ⟨i, B, R, rfl, hi, hQ, hap, HS, hbs, hmb, hmn, hin, o7, hB⟩ := hrel
        by_cases hlt : i < js.length
        · obtain ⟨k, hk⟩ : ∃ k, N[i]? = some k := ⟨_, List.getElem?_eq_getElem (by have := HCL.out.2; omega)⟩
          obtain ⟨b0, hb0⟩ : ∃ b0, B[i]? = some b0 := ⟨_, List.getElem?_eq_getElem (by have := HS.out.so.len; have := HCL.out.2; omega)⟩
          have hii : (i : Int) < (js.length : Int) := by omega
          have hkb := HVM.out.sh.nk i k hk
          have HK := hide (And.intro hk hb0)
          have n9 := hmn.cell_ i (intJ_get hk)
          have i9 := hin.cell_ i (bools_get hb0)
          have hk0 : -1 ≤ k := hkb.1
          clear hk hb0 hkb
          have m0 := hmb.cell_ 0 rfl
          have m2 := hmb.cell_ 2 rfl
          cases b0 with
          | true =>
            have HS2 := hide (HS.out.skip (.inl HK.out.2))
            go_wp2_with fail
            go_roundw
            case rel => exact ⟨i + 1, B, R, by go_num, by omega, hQ, hap, HS2, hbs, hmb, hmn, hin, o7, hB⟩
            case measure => simp [intOf]; omega
          | false =>
            by_cases hkn : k < 0
            · have HS2 := hide (HS.out.skip (.inr fun l hl q hq => by rw [HK.out.1] at hq; injection hq with hq; omega))
              go_wp2_with fail
              go_roundw
              case rel => exact ⟨i + 1, B, R, by go_num, by omega, hQ, hap, HS2, hbs, hmb, hmn, hin, o7, hB⟩
              case measure => simp [intOf]; omega
            · obtain ⟨q, rfl⟩ : ∃ q : Nat, k = (q : Int) := ⟨k.toNat, by omega⟩
              obtain ⟨l, hl⟩ : ∃ l, (chooseL ns js)[j]? = some l := ⟨_, List.getElem?_eq_getElem (by have := HCL.out.1; omega)⟩
              obtain ⟨bc, offc, A', c', hAC, _, r9, hSl⟩ := HCW.out W hB j l hl
              have hll := HCR.out j l hl
              have HL := hide hl
              have hjc : (j : Int) < ((chooseL ns js).length : Int) := by rw [HCL.out.1]; omega
              have hSr := hSl.slc.more (show W1.heap.size ≤ W.heap.size by have := HW1.out; omega)
              have hCJ : ∀ l', (chooseL ns js)[j]? = some l' → l' = l := fun l' h => by rw [HL.out] at h; injection h with h; exact h.symm
              have HCJ := hide hCJ
              have hll2 : l.length ≤ 100000 := by omega
              clear hl hCJ hll hSl
              subst hAC
              by_cases hm : (q : Int) ∈ l
              · have HS2 := hide (HS.out.take HZ.out HK.out.2 HK.out.1 (by rw [Int.toNat_natCast]; exact HL.out) hm)
                have hqge := que_ge hQ
                have HSZ : Hid (i < (bools B).size) := by
                  show _ < _
                  rw [bools_size, HS.out.so.len, HCL.out.2]; exact hlt
                have HRL : Hid (R.length ≤ 1000) := by
                  show _ ≤ _
                  have h1 := HS.out.so.few
                  have h2 := HCL.out.2
                  rw [List.length_cons] at h1
                  omega
                go_wp2_with fail
                refine (contains_any A' c' l (q : Int) W hll2 hSr).mono ?_
                rintro e W' ⟨rfl, rfl⟩
                rw [decide_eq_true hm]
                clear hm hSr r9 n9 i9
                go_upto_region 20 with (refine wpList_store_at rfl 4 _ _ rfl (.bool true) hin rfl rfl (by kernel_rfl) rfl HSZ.out rfl ?_; intro W4 hin4 hc4)
                rw [bools_set] at hin4
                have hgc := chg_grown hc4
                have hQ4 := hQ.kept hgc fun b hb he => by
                  have := hqge b hb
                  injection he with he
                  omega
                clear m0 m2
                have o4 := own_kept o7 hgc fun x hv he => by
                  have := (World.ownsRow.lt o7 x hv).1
                  injection he with he
                  omega
                have hmb4 := hmb.chg1 hc4 (by omega)
                have hmn4 := hmn.chg1 hc4 (by omega)
                have hB4 := hB.trans (hc4.below1 hB.size (Nat.le_refl _))
                have hbs4 : W2.heap.size + 1 ≤ W4.heap.size := by have := hc4.size; omega
                have hqge4 := que_ge hQ4
                clear hQ hmb hmn hin o7 hB hbs hgc hc4 hqge
                go_upto_region 21 with (at_builtin; refine wpList_que_app (base := W2.heap.size + 1) _ _ rfl rfl et_ints (hQ4.alloc (.cells #[.int .i64 i] 3)) rfl rfl (y := (i : Int)) ((Blk.new W4 3 #[.int .i64 i]).cell_ 0 rfl) rfl (by have := HRL.out; omega) (by simp; omega) ?_; intro v8 W5 q8 hg8 hv8)
                have hbT : Below (W2.heap.size + 1) W4 W5 := ((Below.refl (W2.heap.size + 1) W4).alloc hbs4 (.cells #[.int .i64 i] 3)).trans (grown_below hg8 (fun b hb => (hqge4 b hb).1) (by simp; omega))
                have o5 : Own W5 (W2.heap.size + 1) 3 1 intEnc v7 (O ++ [(j : Int)]) := own_kept (o4.alloc _) hg8 fun x hv he => hap x he hv
                have hap5 : apartV v8 v7 := fun b hb he => by
                  rcases hv8 b hb with h | h
                  · have := (World.ownsRow.lt o4 b he).2
                    simp at h; omega
                  · exact hap b h he
                have hmb5 := hmb4.below hbT (by omega)
                have hmn5 := hmn4.below hbT (by omega)
                have hin5 := hin4.below hbT (by omega)
                have hB5 := hB4.trans (hbT.mono (Nat.le_succ _))
                have hbs5 : W2.heap.size + 1 ≤ W5.heap.size := by have := hbT.size; omega
                clear hbT hg8 hv8 o4 hmb4 hmn4 hin4 hB4 hbs4 hQ4 hqge4 hap
                go_wp2_with fail
                go_roundw
                case rel => exact ⟨i + 1, B.set i true, R ++ [(i : Int)], by go_num, by omega, q8, hap5, HS2, hbs5, hmb5, hmn5, hin5, o5, hB5⟩
                case measure => simp [intOf]; omega
              · have HS2 := hide (HS.out.skip (.inr fun l' hl' q' hq' hm' => by
                  rw [Int.toNat_natCast] at hl'
                  have e1 := HCJ.out l' hl'
                  have e2 := HK.out.1
                  rw [hq'] at e2
                  injection e2 with e2
                  rw [e1, e2] at hm'
                  exact hm hm'))
                go_wp2_with fail
                refine (contains_any A' c' l (q : Int) W hll2 hSr).mono ?_
                rintro e W' ⟨rfl, rfl⟩
                rw [decide_eq_false hm]
                clear hm hSr r9
                go_wp2_with fail
                go_roundw
                case rel => exact ⟨i + 1, B, R, by go_num, by omega, hQ, hap, HS2, hbs, hmb, hmn, hin, o7, hB⟩
                case measure => simp [intOf]; omega
        · obtain rfl : i = js.length := by omega
          have HS2 : Hid (WaySo (chooseL ns js) N P j0 Z B (O ++ [(j : Int)]) R) := by
            have h := HS.out
            rw [← HCL.out.2] at h
            exact h.done
          obtain ⟨A7, c7, rfl, _⟩ := o7.form (fun _ => rfl)
          have hlen : (O ++ [(j : Int)]).length = O.length + 1 := by simp
          have m0 := hmb.cell_ 0 rfl
          have m2 := hmb.cell_ 2 rfl
          go_wp2_with fail
          go_roundw
          case rel =>
            exact ⟨B, O ++ [(j : Int)], R, hQ, o7, hap, HS2, hbs, hmb, hmn, hin, hB⟩
          case measure => simp [lenV]; omega
end Go.Proofs.Ytkcfalehebacpaa
