/- Parts of the proofs of this seat: Balance. Each part says what it proves; no condition beyond those stated there. -/
import Derived.StillTailTactics
import Derived.RegionTactic
import Derived.BigRegion
import Derived.Deep.RegionHeld3
import Derived.Maps.RangeWalk
import Derived.Test.YtpeokpnjnmgloaaM4
import Derived.Test.YtpeokpnjnmgloaaM12

/- The areas of a store: the walk of Balance; none; Clone of nil. -/
namespace Go.Proofs.Ytpeokpnjnmgloaa
open Go.RowKit

theorem none_any (g : Nat) (w : World) (h : w.cell? ⟨g, 5, none⟩ = some (.bool true)) : Calls Try.prog 16 #[.pointer (some ⟨g, 0, none⟩)] w fun e w' => e = .returned (.bool false) ∧ w = w' := by
  go_enter Try.func16, Try.ntmps16
  go_wp2
  go_ret
  exact ⟨rfl, rfl⟩

theorem clone_nil (c : Nat) (w : World) : Calls Try.prog 18 #[.slice none 0 c] w fun e w' => e = .returned (.slice none 0 0) ∧ w = w' := by
  have hn := fun w => Lib.run_eql_slice_nil (P := Try.prog) w 34 50 none 0 c 0 0 Try.underlying34
  go_enter Try.func18, Try.ntmps18
  go_wp2
  go_ret
  exact ⟨rfl, rfl⟩

def wlV : Value → Int
  | .agg cs => intOf (cs.getD 6 undef) * intOf (cs.getD 7 undef)
  | _ => 0
/-- a piece's area where it is not used; where it is -/
def plV : Value → Int
  | .agg cs => if intOf (cs.getD 7 undef) = 0 then intOf (cs.getD 5 undef) * intOf (cs.getD 6 undef) else 0
  | _ => 0
def puV : Value → Int
  | .agg cs => if intOf (cs.getD 7 undef) = 0 then 0 else intOf (cs.getD 5 undef) * intOf (cs.getD 6 undef)
  | _ => 0
def sumV (f : Value → Int) (L : List (Int × Value)) : Int := (L.map fun p => f p.2).sum
theorem sumV_cons (f : Value → Int) (L1 L2 : List (Int × Value)) (k : Int) (v : Value) : sumV f (L1 ++ (k, v) :: L2) = f v + sumV f (L1 ++ L2) := by
  simp [sumV]; omega
/-- an item's value in the map: nine cells, its measures small -/
def ItemV (v : Value) : Prop := ∃ a b c d e f x y A n m, v = .agg #[.int .i64 a, .int .i64 b, .int .i64 c, .int .i64 d, .int .i64 e, .int .i64 f, .int .i64 x, .int .i64 y, .slice A n m] ∧ 0 ≤ x ∧ x ≤ 150 ∧ 0 ≤ y ∧ y ≤ 6000
def PieceV (v : Value) : Prop := ∃ a b c d e x y u, v = .agg #[.int .i64 a, .int .i64 b, .int .i64 c, .int .i64 d, .int .i64 e, .int .i64 x, .int .i64 y, .int .i64 u] ∧ 0 ≤ x ∧ x ≤ 150 ∧ 0 ≤ y ∧ y ≤ 6000
theorem area_bd {x y : Int} (h1 : 0 ≤ x) (h2 : x ≤ 150) (h3 : 0 ≤ y) (h4 : y ≤ 6000) : 0 ≤ x * y ∧ x * y ≤ 900000 := by
  have := Int.mul_le_mul h2 h4 h3 (by omega)
  exact ⟨Int.mul_nonneg h1 h3, by omega⟩
theorem ItemV.bd {v : Value} (h : ItemV v) : 0 ≤ wlV v ∧ wlV v ≤ 900000 := by
  obtain ⟨a, b, c, d, e, f, x, y, A, n, m, rfl, h1, h2, h3, h4⟩ := h
  exact area_bd h1 h2 h3 h4
theorem PieceV.bd {v : Value} (h : PieceV v) : 0 ≤ plV v ∧ plV v ≤ 900000 ∧ 0 ≤ puV v ∧ puV v ≤ 900000 := by
  obtain ⟨a, b, c, d, e, x, y, u, rfl, h1, h2, h3, h4⟩ := h
  have := area_bd h1 h2 h3 h4
  simp only [plV, puV, intOf]
  by_cases hu : u = 0
  · simp [hu]; omega
  · simp [hu]; omega
theorem sumV_bd {f : Value → Int} {L : List (Int × Value)} (h : ∀ p ∈ L, 0 ≤ f p.2 ∧ f p.2 ≤ 900000) : 0 ≤ sumV f L ∧ sumV f L ≤ 900000 * L.length := by
  induction L with
  | nil => simp [sumV]
  | cons p L ih =>
    have h1 := ih fun q hq => h q (List.mem_cons_of_mem _ hq)
    have h2 := h p (List.mem_cons_self ..)
    have h3 : sumV f (p :: L) = f p.2 + sumV f L := by simp [sumV]
    rw [h3]
    simp only [List.length_cons]
    omega

set_option maxHeartbeats 2000000 in
theorem bal_any (g : Nat) (w : World) (cs : Array Value) (hB : Blk w g 58 cs) (r p : Nat) (rec was : Int)
    (h5 : cs[5]? = some (.bool true)) (h6 : cs[6]? = some (.map (some r))) (h7 : cs[7]? = some (.map (some p))) (h11 : cs[11]? = some (.int .i64 rec)) (h12 : cs[12]? = some (.int .i64 was)) (MI MP : List (Int × Value)) (hI : MapOf w r MI) (hP : MapOf w p MP)
    (hMI : ∀ q ∈ MI, ItemV q.2) (hnI : MI.length ≤ 1000000) (hMP : ∀ q ∈ MP, PieceV q.2) (hnP : MP.length ≤ 1000000) :
    Calls Try.prog 14 #[.pointer (some ⟨g, 0, none⟩)] w fun e w' => e = .returned (.agg #[.int .i64 rec, .int .i64 (sumV wlV MI), .int .i64 (sumV plV MP), .int .i64 (sumV puV MP), .int .i64 was]) ∧ Below w.heap.size w w' := by
  have c5 := hB.cell_ 5 h5
  have c6 := hB.cell_ 6 h6
  have c7 := hB.cell_ 7 h7
  have c11 := hB.cell_ 11 h11
  have c12 := hB.cell_ 12 h12
  have hg := hB.lt
  have hr := hI.lt
  have hp := hP.lt
  have H5 := hide h5
  have hmax := sumV_bd (f := wlV) fun q hq => (hMI q hq).bd
  clear h5 h6 h7 h11 h12
  go_enter Try.func14, Try.ntmps14
  go_wp2_with (go_at_call 16; refine (none_any _ _ ((hB.alloc _).cell_ 5 H5.out)).mono ?_; rintro e w' ⟨rfl, rfl⟩)
  go_region
  go_wp2_with (at_range; refine wpList_range_im rfl _ _ rfl _ _ Try.underlying54 r rfl ((hI.alloc _).alloc _) ?_; intro it W0 hit hbl hle)
  go_frame
  have hbo : Blk W0 w.heap.size 52 #[.int .i64 0, .int .i64 0, .int .i64 0, .int .i64 0, .int .i64 0] := (Blk.drew ((Blk.new w _ _).alloc _)).below hbl (by simp; omega)
  have hb1 : Blk W0 (w.heap.size + 1) 52 #[.int .i64 rec, .int .i64 0, .int .i64 0, .int .i64 0, .int .i64 was] := (Blk.drew (by have := Blk.new (w.alloc (.cells #[.int .i64 0, .int .i64 0, .int .i64 0, .int .i64 0, .int .i64 0] 52)) 52 #[.int .i64 rec, .int .i64 0, .int .i64 0, .int .i64 0, .int .i64 was]; rw [World.size_alloc] at this; exact this)).below hbl (by simp)
  have hle' : w.heap.size + 2 ≤ it := by simpa using hle
  have hbw : Below w.heap.size w W0 := ((((Below.refl _ _).alloc (Nat.le_refl _) _).alloc (by simp) _).drew).trans (hbl.mono (by simp; omega))
  clear hbl hle
  go_loopw [25] (fun _ wr => ∃ (st : Int) (L : List (Int × Value)), IterOf wr it r MI L ∧ (∀ q ∈ L, ItemV q.2) ∧ L.length ≤ 1000000 ∧ 0 ≤ st ∧ st + sumV wlV L = sumV wlV MI ∧ Blk wr w.heap.size 52 #[.int .i64 0, .int .i64 0, .int .i64 0, .int .i64 0, .int .i64 0] ∧
      Blk wr (w.heap.size + 1) 52 #[.int .i64 rec, .int .i64 st, .int .i64 0, .int .i64 0, .int .i64 was] ∧ Below w.heap.size w wr) (fun _ wr => leftN wr it)
  case atStart => exact ⟨0, MI, hit, hMI, hnI, Int.le_refl _, by omega, hbo, hb1, hbw⟩
  case round =>
    clear hbo hb1 hbw hit
    obtain ⟨st, L, hit, hL, hnL, h0, hsum, hbo, hb1, hbw⟩ := hrel
    go_wp2_with (at_next; refine wpList_next_im rfl _ rfl it r rfl hit ?_ ?_)
    · intro hLe
      have hst : st = sumV wlV MI := by rw [hLe] at hsum; simpa [sumV] using hsum
      have HS := hide hst
      clear hsum hLe hst
      have c7' := (hbw.cell (p := ⟨g, 7, none⟩) hg).trans c7
      go_wp2_with (at_range; refine wpList_range_im rfl _ _ rfl _ _ Try.underlying55 p rfl (hP.below hbw hp) ?_; intro it2 W2 hit2 hbl hle)
      go_frame
      have hle2 : w.heap.size + 2 ≤ it2 := by have := hit.lt; omega
      have hbo2 := hbo.below hbl hbo.lt
      have hb12 := hb1.below hbl hb1.lt
      have hbw2 := hbw.trans (hbl.mono hbw.size)
      clear hbl hle hbo hb1 hbw hit
      go_loopw [43] (fun _ wr => ∃ (pc us : Int) (L : List (Int × Value)), IterOf wr it2 p MP L ∧ (∀ q ∈ L, PieceV q.2) ∧ 0 ≤ pc ∧ pc ≤ 900000 * 1000000 ∧ 0 ≤ us ∧ us ≤ 900000 * 1000000 ∧ pc + sumV plV L = sumV plV MP ∧ us + sumV puV L = sumV puV MP ∧ Blk wr w.heap.size 52 #[.int .i64 0, .int .i64 0, .int .i64 0, .int .i64 0, .int .i64 0] ∧
          Blk wr (w.heap.size + 1) 52 #[.int .i64 rec, .int .i64 st, .int .i64 pc, .int .i64 us, .int .i64 was] ∧ Below w.heap.size w wr) (fun _ wr => leftN wr it2)
      case atStart => exact ⟨0, 0, MP, hit2, hMP, by omega, by omega, by omega, by omega, by omega, by omega, hbo2, hb12, hbw2⟩
      case round =>
        clear hbo2 hb12 hbw2 hit2
        obtain ⟨pc, us, L, hit, hL, hp0, hp1, hu0, hu1, hsp, hsu, hbo, hb1, hbw⟩ := hrel
        go_wp2_with (at_next; refine wpList_next_im rfl _ rfl it2 p rfl hit ?_ ?_)
        · intro hLe
          have HP : Hid (pc = sumV plV MP ∧ us = sumV puV MP) := by rw [hLe] at hsp hsu; exact ⟨by simpa [sumV] using hsp, by simpa [sumV] using hsu⟩
          clear hsp hsu hLe
          have o0 := hbo.cell_ 0 rfl
          have o1 := hbo.cell_ 1 rfl
          have o2 := hbo.cell_ 2 rfl
          have o3 := hbo.cell_ 3 rfl
          have o4 := hbo.cell_ 4 rfl
          have b0 := hb1.cell_ 0 rfl
          have b1 := hb1.cell_ 1 rfl
          have b2 := hb1.cell_ 2 rfl
          have b3 := hb1.cell_ 3 rfl
          have b4 := hb1.cell_ 4 rfl
          have f0 := hbo.frozen 0
          have f1 := hbo.frozen 1
          have f2 := hbo.frozen 2
          have f3 := hbo.frozen 3
          have f4 := hbo.frozen 4
          go_wp2
          have hf := ((((hbo.set_ 0 (.int .i64 rec)).set_ 1 (.int .i64 st)).set_ 2 (.int .i64 pc)).set_ 3 (.int .i64 us)).set_ 4 (.int .i64 was)
          have q0 := hf.cell_ 0 rfl
          have q1 := hf.cell_ 1 rfl
          have q2 := hf.cell_ 2 rfl
          have q3 := hf.cell_ 3 rfl
          have q4 := hf.cell_ 4 rfl
          clear o0 o1 o2 o3 o4 f0 f1 f2 f3 f4 b0 b1 b2 b3 b4
          refine bodyPost_ret (v := .agg #[.int .i64 rec, .int .i64 st, .int .i64 pc, .int .i64 us, .int .i64 was]) (by simp [results, Try.results14, go_sem, q0, q1, q2, q3, q4]) rfl ⟨by rw [HS.out, HP.out.1, HP.out.2], ?_⟩
          exact ((((hbw.setCell (Nat.le_refl _) _).setCell (Nat.le_refl _) _).setCell (Nat.le_refl _) _).setCell (Nat.le_refl _) _).setCell (Nat.le_refl _) _
        · intro k v L1 L2 w1 hLe hit1 hg1 hen
          have hv : PieceV v := hL (k, v) (by rw [hLe]; simp)
          have hbd1 := sumV_bd (f := plV) fun q hq => ⟨(hL q hq).bd.1, (hL q hq).bd.2.1⟩
          have hbd2 := sumV_bd (f := puV) fun q hq => (hL q hq).bd.2.2
          have hL' : ∀ q ∈ L1 ++ L2, PieceV q.2 := fun q hq => hL q (by rw [hLe]; simp at hq ⊢; rcases hq with h | h <;> simp [h])
          have hlen : L.length = (L1 ++ L2).length + 1 := by rw [hLe]; simp; omega
          have HM := hide ((hit.left_eq).trans hlen)
          have hsp' : pc + plV v + sumV plV (L1 ++ L2) = sumV plV MP := by rw [hLe, sumV_cons] at hsp; omega
          have hsu' : us + puV v + sumV puV (L1 ++ L2) = sumV puV MP := by rw [hLe, sumV_cons] at hsu; omega
          have hb1' := hb1.grown hg1 (by simp; omega)
          have c2 := hb1'.cell_ 2 rfl
          have f2 := hb1'.frozen 2
          have c3 := hb1'.cell_ 3 rfl
          have f3 := hb1'.frozen 3
          have hlt := hb1'.lt
          have hmp := sumV_bd (f := plV) fun q hq => ⟨(hMP q hq).bd.1, (hMP q hq).bd.2.1⟩
          have hmu := sumV_bd (f := puV) fun q hq => (hMP q hq).bd.2.2
          have hbd1' := sumV_bd (f := plV) fun q hq => ⟨(hL' q hq).bd.1, (hL' q hq).bd.2.1⟩
          have hbd2' := sumV_bd (f := puV) fun q hq => (hL' q hq).bd.2.2
          obtain ⟨a, b, c, d, e, x, y, u, rfl, hx0, hx1, hy0, hy1⟩ := hv
          obtain ⟨hxy0, hxy⟩ := area_bd hx0 hx1 hy0 hy1
          by_cases hu : u = 0
          · have hp2 : pc + x * y ≤ 900000 * 1000000 := by simp [plV, intOf, hu] at hsp'; omega
            have HP := hide (show pc + x * y + sumV plV (L1 ++ L2) = sumV plV MP by simpa [plV, intOf, hu] using hsp')
            have HU := hide (show us + sumV puV (L1 ++ L2) = sumV puV MP by simpa [puV, intOf, hu] using hsu')
            have hd : (u == 0) = true := by simpa using hu
            have HL := hide hL'
            clear hL hLe hsp hsu hL' hlen hbd1 hbd2 hMP hsp' hsu' hmp hmu hbd1' hbd2' hu
            go_wp2
            go_roundw
            case rel =>
              refine ⟨pc + x * y, us, L1 ++ L2, (hit1.setCell _ _ (by simp; omega) (by simp; omega)).alloc _, HL.out, by omega, by omega, by omega, by omega, HP.out, HU.out, ?_, ?_, ?_⟩
              · exact ((hbo.grown hg1 (by simp; omega)).far (by simp) _).alloc _
              · exact (hb1'.set_ 2 _).alloc _
              · exact ((hbw.grown hg1 hbw.size (fun k hk => by cases hk; omega)).setCell (by simp) _).alloc (by simp [World.setCell]; exact Nat.le_trans hbw.size hg1.size) _
            case measure =>
              rw [HM.out, ((hit1.setCell _ _ (by simp; omega) (by simp; omega)).alloc _).left_eq]
              omega
          · have hp2 : us + x * y ≤ 900000 * 1000000 := by simp [puV, intOf, hu] at hsu'; omega
            have HP := hide (show pc + sumV plV (L1 ++ L2) = sumV plV MP by simpa [plV, intOf, hu] using hsp')
            have HU := hide (show us + x * y + sumV puV (L1 ++ L2) = sumV puV MP by simpa [puV, intOf, hu] using hsu')
            have hd : (u == 0) = false := by simpa using hu
            have HL := hide hL'
            clear hL hLe hsp hsu hL' hlen hbd1 hbd2 hMP hsp' hsu' hmp hmu hbd1' hbd2' hu
            go_wp2
            go_roundw
            case rel =>
              refine ⟨pc, us + x * y, L1 ++ L2, (hit1.setCell _ _ (by simp; omega) (by simp; omega)).alloc _, HL.out, by omega, by omega, by omega, by omega, HP.out, HU.out, ?_, ?_, ?_⟩
              · exact ((hbo.grown hg1 (by simp; omega)).far (by simp) _).alloc _
              · exact (hb1'.set_ 3 _).alloc _
              · exact ((hbw.grown hg1 hbw.size (fun k hk => by cases hk; omega)).setCell (by simp) _).alloc (by simp [World.setCell]; exact Nat.le_trans hbw.size hg1.size) _
            case measure =>
              rw [HM.out, ((hit1.setCell _ _ (by simp; omega) (by simp; omega)).alloc _).left_eq]
              omega
    · intro k v L1 L2 w1 hLe hit1 hg1 hen
      have hv : ItemV v := hL (k, v) (by rw [hLe]; simp)
      have hbd := sumV_bd (f := wlV) fun q hq => (hL q hq).bd
      have hL' : ∀ q ∈ L1 ++ L2, ItemV q.2 := fun q hq => hL q (by rw [hLe]; simp at hq ⊢; rcases hq with h | h <;> simp [h])
      have hlen : L.length = (L1 ++ L2).length + 1 := by rw [hLe]; simp; omega
      have HM := hide ((hit.left_eq).trans hlen)
      have hsum' : st + wlV v + sumV wlV (L1 ++ L2) = sumV wlV MI := by rw [hLe, sumV_cons] at hsum; omega
      have hlen' : (L1 ++ L2).length ≤ 1000000 := by omega
      have hst : st ≤ 900000 * 1000000 := by omega
      obtain ⟨a, b, c, d, e, f, x, y, A, n, m, rfl, hx0, hx1, hy0, hy1⟩ := hv
      have HSUM := hide hsum'
      have HL := hide hL'
      clear hL hLe hsum hsum' hL' hlen hbd hMI hnL
      have hb1' := hb1.grown hg1 (by simp; omega)
      have c1 := hb1'.cell_ 1 rfl
      have f1 := hb1'.frozen 1
      have hlt := hb1'.lt
      obtain ⟨hxy0, hxy⟩ := area_bd hx0 hx1 hy0 hy1
      go_wp2
      go_roundw
      case rel =>
        refine ⟨st + x * y, L1 ++ L2, (hit1.setCell _ _ (by simp; omega) (by simp; omega)).alloc _, HL.out, hlen', by omega, HSUM.out, ?_, ?_, ?_⟩
        · exact ((hbo.grown hg1 (by simp; omega)).far (by simp) _).alloc _
        · exact (hb1'.set_ 1 _).alloc _
        · exact ((hbw.grown hg1 hbw.size (fun k hk => by cases hk; omega)).setCell (by simp) _).alloc (by simp [World.setCell]; exact Nat.le_trans hbw.size hg1.size) _
      case measure =>
        rw [HM.out, ((hit1.setCell _ _ (by simp; omega) (by simp; omega)).alloc _).left_eq]
        omega
end Go.Proofs.Ytpeokpnjnmgloaa
