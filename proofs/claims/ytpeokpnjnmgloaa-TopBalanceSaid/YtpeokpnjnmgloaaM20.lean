/- Parts of the proofs of this seat: StabSInt, KeyP. Each part says what it proves; no condition beyond those stated there. -/
import Derived.Test.YtpeokpnjnmgloaaM17
import Derived.Test.YtpeokpnjnmgloaaM18
import Derived.Test.YtpeokpnjnmgloaaM19

/- The library's stable sort of int: the whole. -/
namespace Go.Proofs.Ytpeokpnjnmgloaa
open Go Go.Sort Go.RowKit Go.Lib Go.Shelf Go.Proofs
namespace StabInt
variable {P : Program}
section
variable {α : Type} [Inhabited α] (L : Lay P) (enc0 : α → Value) (hk : OneCell enc0) (cf0 : α → α → Int)
theorem ltOf_T {α : Type} (cf0 : α → α → Int) : ltOf (cfT cf0) = ltT (ltF cf0) := rfl
include L hk
-- one call of insertion: from place a to place b of dk, in the world wq; HQ; hpt: the tags from a on
theorem ins_step (hS : SWO (ltF cf0)) (g : Nat) (cb : Array Value) (blk off cap a b : Nat) (d dk : Array (α × Nat)) (w wq : World) (q : Nat) (os : Array Obj) (eg : ∀ args w, (callFunc g args).run P w = .ok (.enter g args) w)
    (hcmp : Cmp P g cb (encT enc0) (cfT cf0) blk off d.size w) (hH : Holds (encT enc0) w blk off d) (hblk : blk < w.heap.size) (hab : a ≤ b) (hb : b ≤ d.size) (hsz : d.size ≤ 1000000000) (hs : dk.size = d.size) (hq : wq = SW (encT enc0) w blk off q dk os)
    (ht : ∀ p q, a ≤ p → p < q → q < b → dk[p]!.2 < dk[q]!.2) :
    Calls P 72 #[.slice (some ⟨blk, off, none⟩) d.size cap, .int .i64 a, .int .i64 b, .func (.func g) #[] cb] wq fun e w' =>
      e = .returned (.tuple #[]) ∧ ∃ q r os, w' = SW (encT enc0) w blk off q r os ∧ PermIn a b dk r ∧ TS (ltF cf0) a b r := by
  have C := insertion_any L (encT enc0) (fun x => hk x.1) (cfT cf0) g cb blk off cap a b dk wq eg (by rw [hs, hq]; exact cmp_again hcmp hblk q dk os hs) (by rw [hq]; exact SW_holds hH hblk q dk os hs) (by rw [hq]; exact SW_lt hblk q dk os) hab (by omega) (by omega)
  rw [hs] at C
  refine C.mono ?_
  rintro e w' ⟨rfl, n, os', hw⟩
  obtain ⟨t1, t2⟩ := ins_sorted hS hab (by omega : b ≤ dk.size) ht
  rw [ltOf_T] at hw
  refine ⟨rfl, q + n, _, os ++ os', ?_, t2, t1⟩
  rw [hw, hq]
  exact SW_again (encT enc0) w blk off q n dk _ os os' hblk t2.1
theorem merge_step (hS : SWO (ltF cf0)) (g : Nat) (cb : Array Value) (blk off cap a m b : Nat) (d dk : Array (α × Nat)) (w wq : World) (q : Nat) (os : Array Obj) (eg : ∀ args w, (callFunc g args).run P w = .ok (.enter g args) w)
    (hcmp : Cmp P g cb (encT enc0) (cfT cf0) blk off d.size w) (hH : Holds (encT enc0) w blk off d) (hblk : blk < w.heap.size) (ham : a < m) (hmb : m < b) (hb : b ≤ d.size) (hsz : d.size ≤ 1000000000) (hs : dk.size = d.size) (hq : wq = SW (encT enc0) w blk off q dk os)
    (hP : Parts (ltF cf0) a m b dk) :
    Calls P 73 #[.slice (some ⟨blk, off, none⟩) d.size cap, .int .i64 a, .int .i64 m, .int .i64 b, .func (.func g) #[] cb] wq fun e w' =>
      e = .returned (.tuple #[]) ∧ ∃ q r os, w' = SW (encT enc0) w blk off q r os ∧ PermIn a b dk r ∧ TS (ltF cf0) a b r := by
  have C := symMerge_any L enc0 hk cf0 hS g cb blk off cap eg (b - a) a m b dk wq (Nat.le_refl _) (by rw [hs, hq]; exact cmp_again hcmp hblk q dk os hs) (by rw [hq]; exact SW_holds hH hblk q dk os hs) (by rw [hq]; exact SW_lt hblk q dk os) ham hmb (by omega) (by omega) hP
  rw [hs] at C
  refine C.mono ?_
  rintro e w' ⟨rfl, n, r, os', hw, hp, ht⟩
  refine ⟨rfl, q + n, r, os ++ os', ?_, hp, ht⟩
  rw [hw, hq]
  exact SW_again (encT enc0) w blk off q n dk r os os' hblk hp.1
set_option maxHeartbeats 8000000 in
set_option maxRecDepth 1000000 in
theorem stable_any (hS : SWO (ltF cf0)) (g : Nat) (cb : Array Value) (blk off cap : Nat) (d : Array (α × Nat)) (w : World) (eg : ∀ args w, (callFunc g args).run P w = .ok (.enter g args) w)
    (hcmp : Cmp P g cb (encT enc0) (cfT cf0) blk off d.size w) (hH : Holds (encT enc0) w blk off d) (hblk : blk < w.heap.size) (hsz : d.size ≤ 1000000000) (ht : ∀ i, i < d.size → d[i]!.2 = i) :
    Calls P 54 #[.slice (some ⟨blk, off, none⟩) d.size cap, .int .i64 d.size, .func (.func g) #[] cb] w (Sorted_ (ltF cf0) (encT enc0) w blk off 0 d.size d) := by
  have INS := hide (fun (a b : Nat) (dk : Array (α × Nat)) (wq : World) (q : Nat) (os : Array Obj) => ins_step L enc0 hk cf0 hS g cb blk off cap a b d dk w wq q os eg hcmp hH hblk)
  have MRG := hide (fun (a m b : Nat) (dk : Array (α × Nat)) (wq : World) (q : Nat) (os : Array Obj) => merge_step L enc0 hk cf0 hS g cb blk off cap a m b d dk w wq q os eg hcmp hH hblk)
  have HST : Hid (w = SW (encT enc0) w blk off 0 d #[]) := SW_start hH
  have HT := hide ht
  obtain ⟨enc, henc⟩ : ∃ enc, enc = encT enc0 := ⟨_, rfl⟩
  rw [← henc] at INS MRG HST ⊢
  obtain ⟨n, hn⟩ : ∃ n, n = d.size := ⟨_, rfl⟩
  rw [← hn] at INS MRG hsz HT ⊢
  have HN := hide hn
  have mixed := L.mixed; have tS := L.tS; have aS := L.aS; have zS := L.zS; have vS := L.vS; have t3 := L.t3; have a3 := L.a3; have z3 := L.z3; have v3 := L.v3; have t4 := L.t4; have a4 := L.a4; have z4 := L.z4; have v4 := L.v4; have tU := L.tU; have aU := L.aU; have zU := L.zU; have vU := L.vU
  have uS := run_underlying L.tS
  have eIns := L.eIns; have eSwr := L.eSwr; have eRot := L.eRot; have eSym := L.eSym; have eStb := L.eStb
  clear hk hcmp hH hS ht henc hn
  go_enter L.fStb, Try.ntmps54
  go_wp2
  go_loopg [7, 8] n (fun g1 va vb wr => ∃ (c a q : Nat) (os : Array Obj) (dk : Array (α × Nat)), va = .int .i64 a ∧ vb = .int .i64 ((a + 20 : Nat) : Int) ∧ a = c * 20 ∧ a ≤ n ∧ n - a ≤ g1 ∧ Hid (wr = SW enc w blk off q dk os) ∧ Hid (BSt (ltF cf0) 20 0 a dk) ∧ Hid (PermIn 0 n d dk) ∧ Hid (BTg 20 n dk) ∧ Hid (∀ i, a ≤ i → i < n → dk[i]! = d[i]!))
  case atStart => exact ⟨0, 0, 0, #[], d, rfl, rfl, by omega, by omega, by omega, HST, hide fun i j h1 h2 h3 => by omega, hide (permIn_refl d 0 n), hide (BTg.one HT.out 20), hide fun i h1 h2 => rfl⟩
  case round =>
    obtain ⟨c, a, q, os, dk, rfl, rfl, ha, han, hg1, HQ, HB, HP, HG, HD⟩ := hrel
    have HA := hide ha
    clear ha
    generalize wr = wq at *
    have hs : dk.size = n := HP.out.1.trans HN.out.symm
    have htg : ∀ e, a ≤ e → e ≤ n → ∀ p q, a ≤ p → p < q → q < e → dk[p]!.2 < dk[q]!.2 := fun e _ h0 p q h1 h2 h3 => by
      rw [HD.out p h1 (by omega), HD.out q (by omega) (by omega), HT.out p (by omega), HT.out q (by omega)]; exact h2
    have HTG := hide htg
    clear htg
    by_cases hlt : a + 20 ≤ n
    · have C := INS.out a (a + 20) dk wq q os (by omega) (by omega) hsz hs HQ.out (HTG.out _ (by omega) hlt)
      go_wp2_with fail
      refine C.mono ?_
      rintro e w2 ⟨rfl, q2, r, os2, hw2, hp2, ht2⟩
      have HW2 := hide hw2
      have HP2 := hide hp2
      have HT2 := hide ht2
      clear hw2 hp2 ht2 C
      go_wp2
      go_roundg (n - (a + 20))
      case measure => omega
      case rel =>
        refine ⟨c + 1, a + 20, q2, os2, r, rfl, by go_num, by have := HA.out; omega, hlt, Nat.le_refl _, HW2, hide (BSt.step HA.out (by omega) (Nat.le_refl _) HB.out HP2.out HT2.out), hide (permIn_trans _ _ _ _ _ HP.out (permIn_mono _ _ a (a + 20) 0 n (by omega) hlt (by omega) HP2.out)), hide (BTg.step HA.out (Nat.le_refl _) hlt (by omega) HG.out HP2.out), hide fun i h1 h2 => ?_⟩
        rw [HP2.out.2.1 i (.inr h1)]; exact HD.out i (by omega) h2
    · have C := INS.out a n dk wq q os (by omega) (by omega) hsz hs HQ.out (HTG.out _ han (Nat.le_refl _))
      have hlt' : ¬ (((a + 20 : Nat) : Int) ≤ (n : Int)) := by omega
      go_wp2_with fail
      refine C.mono ?_
      rintro e w2 ⟨rfl, q2, r, os2, hw2, hp2, ht2⟩
      have HB2 : Hid (BSt (ltF cf0) 20 0 n r) := BSt.step HA.out (by omega) (by omega) HB.out hp2 ht2
      have HP3 : Hid (PermIn 0 n d r) := permIn_trans _ _ _ _ _ HP.out (permIn_mono _ _ a n 0 n (by omega) (Nat.le_refl _) (by omega) hp2)
      have HG2 : Hid (BTg 20 n r) := BTg.step HA.out (by omega) (Nat.le_refl _) (by omega) HG.out hp2
      have HW2 := hide hw2
      clear hw2 hp2 ht2 C HQ HB HP HG HD HTG hs
      go_wp2
      generalize w2 = wq at HW2
      go_loopg [6] n (fun g2 vs wr => ∃ (bs q : Nat) (os : Array Obj) (dk : Array (α × Nat)), vs = .int .i64 bs ∧ 20 ≤ bs ∧ bs ≤ 2 * n + 20 ∧ n - bs ≤ g2 ∧ Hid (wr = SW enc w blk off q dk os) ∧ Hid (BSt (ltF cf0) bs 0 n dk) ∧ Hid (PermIn 0 n d dk) ∧ Hid (BTg bs n dk))
      case atStart => exact ⟨20, q2, os2, r, rfl, by omega, by omega, by omega, HW2, HB2, HP3, HG2⟩
      case round =>
        clear HW2 HB2 HP3 HG2 HA
        obtain ⟨bs, q, os, dk, rfl, hbs, hbs2, hg2, HQ, HB, HP, HG⟩ := hrel
        generalize wr = wq at *
        by_cases hlt2 : bs < n
        · go_wp2
          have hm2 : ((2 * bs : Nat) : Int) = 2 * (bs : Int) := by omega
          go_loopg [7, 8] n (fun g3 va vb wr => ∃ (c a q : Nat) (os : Array Obj) (dk : Array (α × Nat)), va = .int .i64 a ∧ vb = .int .i64 ((a + 2 * bs : Nat) : Int) ∧ a ≤ n ∧ n - a ≤ g3 ∧ Hid (a = c * (2 * bs)) ∧ Hid (wr = SW enc w blk off q dk os) ∧ Hid (PermIn 0 n d dk) ∧ Hid (BSt (ltF cf0) (2 * bs) 0 a dk) ∧ Hid (∀ i j, a ≤ i → i < j → j < n → i / bs = j / bs → TL (ltF cf0) dk[i]! dk[j]!) ∧ Hid (BTg (2 * bs) n dk) ∧ Hid (∀ i, a ≤ i → i < n → dk[i]!.2 / bs = i / bs))
          case atStart => exact ⟨0, 0, q, os, dk, rfl, by go_num, by omega, by omega, hide (by omega), HQ, HP, hide fun i j h1 h2 h3 => by omega, hide fun i j h1 h2 h3 => HB.out i j (by omega) h2 h3, hide HG.out.half, hide fun i h1 h2 => HG.out i h2⟩
          case round =>
            clear HQ HB HP HG
            obtain ⟨c, a, q, os, dk, rfl, rfl, han, hg3, HA, HQ, HP, HB2, HB1, HG2, HG1⟩ := hrel
            generalize wr = wq at *
            have hs : dk.size = n := HP.out.1.trans HN.out.symm
            by_cases hlt : a + 2 * bs ≤ n
            · have hlt' : ((a + 2 * bs : Nat) : Int) ≤ (n : Int) := by omega
              have HPT := parts_of HA.out (e := a + 2 * bs) (by omega) (Nat.le_refl _) hlt (by omega) HB1.out HG1.out
              have C := MRG.out a (a + bs) (a + 2 * bs) dk wq q os (by omega) (by omega) hlt hsz hs HQ.out HPT
              have e1 : ((a + bs : Nat) : Int) = (a : Int) + (bs : Int) := by omega
              rw [e1] at C
              go_wp2_with fail
              refine C.mono ?_
              rintro e w2 ⟨rfl, q2, r, os2, hw2, hp2, ht2⟩
              have HW2 := hide hw2
              have HP2 := hide hp2
              have HT2 := hide ht2
              clear hw2 hp2 ht2 C HPT e1
              go_wp2
              go_roundg (n - (a + 2 * bs))
              case measure => omega
              case rel =>
                refine ⟨c + 1, a + 2 * bs, q2, os2, r, rfl, by go_num, hlt, Nat.le_refl _, hide (by rw [Nat.add_mul, ← HA.out, Nat.one_mul]), HW2, hide (permIn_trans _ _ _ _ _ HP.out (permIn_mono _ _ a (a + 2 * bs) 0 n (by omega) hlt (by omega) HP2.out)), hide (BSt.step HA.out (by omega) (Nat.le_refl _) HB2.out HP2.out HT2.out), hide fun i j h1 h2 h3 h4 => ?_, hide (BTg.step HA.out (Nat.le_refl _) hlt (by omega) HG2.out HP2.out), hide fun i h1 h2 => ?_⟩
                · rw [HP2.out.2.1 i (.inr h1), HP2.out.2.1 j (.inr (by omega))]; exact HB1.out i j (by omega) h2 h3 h4
                · rw [HP2.out.2.1 i (.inr h1)]; exact HG1.out i (by omega) h2
            · have hlt' : ¬ (((a + 2 * bs : Nat) : Int) ≤ (n : Int)) := by omega
              by_cases hm : a + bs < n
              · have HPT := parts_of HA.out (e := n) hm (by omega) (Nat.le_refl _) (by omega) HB1.out HG1.out
                have C := MRG.out a (a + bs) n dk wq q os (by omega) hm (Nat.le_refl _) hsz hs HQ.out HPT
                have e1 : ((a + bs : Nat) : Int) = (a : Int) + (bs : Int) := by omega
                rw [e1] at C
                go_wp2_with fail
                refine C.mono ?_
                rintro e w2 ⟨rfl, q2, r, os2, hw2, hp2, ht2⟩
                have HW2 := hide hw2
                have HP2 := hide hp2
                have HT2 := hide ht2
                clear hw2 hp2 ht2 C HPT e1
                go_wp2
                go_roundg (n - 2 * bs)
                case measure => omega
                case rel =>
                  exact ⟨2 * bs, q2, os2, r, by go_num, by omega, by omega, Nat.le_refl _, HW2, hide (BSt.step HA.out (by omega) (by omega) HB2.out HP2.out HT2.out), hide (permIn_trans _ _ _ _ _ HP.out (permIn_mono _ _ a n 0 n (by omega) (Nat.le_refl _) (by omega) HP2.out)), hide (BTg.step HA.out (by omega) (Nat.le_refl _) (by omega) HG2.out HP2.out)⟩
              · go_wp2
                go_roundg (n - 2 * bs)
                case measure => omega
                case rel =>
                  exact ⟨2 * bs, q, os, dk, by go_num, by omega, by omega, Nat.le_refl _, HQ, hide (BSt.rest HA.out (by omega) HB2.out HB1.out), HP, HG2⟩
        · go_wp2
          go_end0
          exact ⟨rfl, q, dk, os, HQ.out, HP.out, BSt.all HB.out (by omega)⟩
set_option maxHeartbeats 2000000 in
/-- THE CONTRACT of slices.SortStableFunc -/
theorem sortStable_any (hS : SWO (ltF cf0)) (g : Nat) (cb : Array Value) (blk off cap : Nat) (d : Array (α × Nat)) (w : World) (eg : ∀ args w, (callFunc g args).run P w = .ok (.enter g args) w)
    (hcmp : Cmp P g cb (encT enc0) (cfT cf0) blk off d.size w) (hH : Holds (encT enc0) w blk off d) (hblk : blk < w.heap.size) (hsz : d.size ≤ 1000000000) (ht : ∀ i, i < d.size → d[i]!.2 = i) :
    Calls P 41 #[.slice (some ⟨blk, off, none⟩) d.size cap, .func (.func g) #[] cb] w (Sorted_ (ltF cf0) (encT enc0) w blk off 0 d.size d) := by
  have C := stable_any L enc0 hk cf0 hS g cb blk off cap d w eg hcmp hH hblk hsz ht
  generalize d.size = n at *
  have mixed := L.mixed; have tS := L.tS; have aS := L.aS; have zS := L.zS; have vS := L.vS; have t3 := L.t3; have a3 := L.a3; have z3 := L.z3; have v3 := L.v3; have t4 := L.t4; have a4 := L.a4; have z4 := L.z4; have v4 := L.v4; have tU := L.tU; have aU := L.aU; have zU := L.zU; have vU := L.vU
  have uS := run_underlying L.tS
  have eIns := L.eIns; have eSwr := L.eSwr; have eRot := L.eRot; have eSym := L.eSym; have eStb := L.eStb
  clear hk hcmp hH hS ht
  go_enter L.fTop, Try.ntmps41
  go_wp2_with fail
  refine C.mono ?_
  rintro e w2 ⟨rfl, h⟩
  have HH := hide h
  clear h C
  go_wp2
  go_end0
  exact ⟨rfl, HH.out⟩
end
end StabInt
end Go.Proofs.Ytpeokpnjnmgloaa

/- A stable sort by a key: the plain words. -/
namespace Go.Proofs.Ytpeokpnjnmgloaa
open Go Go.Sort Go.RowKit
section
variable {α : Type} (key : α → Int)
def TK (x y : α × Nat) : Prop := key x.1 < key y.1 ∨ (key x.1 = key y.1 ∧ x.2 < y.2)
def insK (a : α) : List α → List α
  | [] => [a]
  | b :: r => if key a < key b then a :: b :: r else b :: insK a r
def sortK (l : List α) : List α := l.foldl (fun acc a => insK key a acc) []
def insKT (a : α × Nat) : List (α × Nat) → List (α × Nat)
  | [] => [a]
  | b :: r => if key a.1 < key b.1 then a :: b :: r else b :: insKT a r
theorem insKT_map (a : α × Nat) : ∀ l, (insKT key a l).map (·.1) = insK key a.1 (l.map (·.1))
  | [] => rfl
  | b :: r => by
    unfold insKT
    simp only [List.map_cons]
    rw [insK]
    split
    · rfl
    · rw [List.map_cons, insKT_map a r]
theorem insKT_perm (a : α × Nat) : ∀ l, (insKT key a l).Perm (a :: l)
  | [] => List.Perm.refl _
  | b :: r => by
    unfold insKT
    split
    · exact List.Perm.refl _
    · exact ((insKT_perm a r).cons b).trans (List.Perm.swap a b r)
theorem insK_perm (a : α) : ∀ l, (insK key a l).Perm (a :: l)
  | [] => List.Perm.refl _
  | b :: r => by
    unfold insK
    split
    · exact List.Perm.refl _
    · exact ((insK_perm a r).cons b).trans (List.Perm.swap a b r)
theorem insK_sorted (a : α) : ∀ l : List α, l.Pairwise (fun x y => key x ≤ key y) → (insK key a l).Pairwise (fun x y => key x ≤ key y)
  | [], _ => by simp [insK]
  | b :: r, h => by
    unfold insK
    have h1 := List.pairwise_cons.1 h
    split
    · rename_i hlt
      refine List.pairwise_cons.2 ⟨fun c hc => ?_, h⟩
      rcases List.mem_cons.1 hc with rfl | hc
      · omega
      · have := h1.1 c hc
        omega
    · rename_i hge
      refine List.pairwise_cons.2 ⟨fun c hc => ?_, insK_sorted a r h1.2⟩
      rcases List.mem_cons.1 ((insK_perm key a r).subset hc) with rfl | hc
      · omega
      · exact h1.1 c hc
theorem fold_perm : ∀ (l acc : List α), (l.foldl (fun acc a => insK key a acc) acc).Perm (acc ++ l)
  | [], acc => by simp
  | a :: l, acc => (fold_perm l (insK key a acc)).trans (((insK_perm key a acc).append_right l).trans List.perm_middle.symm)
theorem sortK_perm (l : List α) : (sortK key l).Perm l := by simpa [sortK] using fold_perm key l []
theorem sortK_len (l : List α) : (sortK key l).length = l.length := (sortK_perm key l).length_eq
theorem fold_asc : ∀ (l acc : List α), acc.Pairwise (fun x y => key x ≤ key y) → (l.foldl (fun acc a => insK key a acc) acc).Pairwise (fun x y => key x ≤ key y)
  | [], _, h => h
  | a :: l, acc, h => fold_asc l (insK key a acc) (insK_sorted key a acc h)
theorem sortK_asc (l : List α) : (sortK key l).Pairwise (fun x y => key x ≤ key y) := fold_asc key l [] List.Pairwise.nil
theorem sortK_snoc (l : List α) (a : α) : sortK key (l ++ [a]) = insK key a (sortK key l) := by unfold sortK; rw [List.foldl_append]; rfl
/-- where a new element comes to lie -/
theorem insK_split (a : α) : ∀ (l : List α) (k : Nat), k ≤ l.length → (∀ (i : Nat) x, i < k → l[i]? = some x → key x ≤ key a) → (∀ x, l[k]? = some x → key a < key x) → insK key a l = l.take k ++ a :: l.drop k
  | [], k, h, _, _ => by
    obtain rfl : k = 0 := by simpa using h
    rfl
  | b :: r, 0, _, _, h => by
    unfold insK
    rw [if_pos (h b rfl)]; rfl
  | b :: r, k + 1, hk, h1, h2 => by
    unfold insK
    rw [if_neg (by have := h1 0 b (by omega) rfl; omega), insK_split a r k (by simpa using hk) (fun i x hi hx => h1 (i + 1) x (by omega) (by simpa using hx)) (fun x hx => h2 x (by simpa using hx))]
    rfl
variable {key}
theorem insKT_sorted (a : α × Nat) : ∀ l : List (α × Nat), l.Pairwise (TK key) → (∀ b ∈ l, b.2 < a.2) → (insKT key a l).Pairwise (TK key)
  | [], _, _ => by simp [insKT]
  | b :: r, h, ht => by
    unfold insKT
    have h1 := List.pairwise_cons.1 h
    split
    · rename_i hlt
      refine List.pairwise_cons.2 ⟨fun c hc => ?_, h⟩
      rcases List.mem_cons.1 hc with rfl | hc
      · exact .inl hlt
      · have := h1.1 c hc
        unfold TK at this ⊢
        omega
    · rename_i hge
      refine List.pairwise_cons.2 ⟨fun c hc => ?_, insKT_sorted a r h1.2 fun c hc => ht c (by simp [hc])⟩
      rcases List.mem_cons.1 ((insKT_perm key a r).subset hc) with rfl | hc
      · have := ht b (by simp)
        unfold TK
        omega
      · exact h1.1 c hc
theorem foldK_sorted : ∀ (l : List α) (n : Nat) (acc : List (α × Nat)), acc.Pairwise (TK key) → (∀ b ∈ acc, b.2 < n) →
    ∃ s : List (α × Nat), s.Pairwise (TK key) ∧ s.Perm (acc ++ l.zipIdx n) ∧ s.map (·.1) = l.foldl (fun acc a => insK key a acc) (acc.map (·.1))
  | [], n, acc, h, _ => ⟨acc, h, by simp, rfl⟩
  | a :: l, n, acc, h, ht => by
    obtain ⟨s, h1, h2, h3⟩ := foldK_sorted l (n + 1) (insKT key (a, n) acc) (insKT_sorted _ _ h ht) (fun b hb => by
      rcases List.mem_cons.1 ((insKT_perm key (a, n) acc).subset hb) with rfl | hb
      · exact Nat.lt_succ_self _
      · exact Nat.lt_succ_of_lt (ht b hb))
    refine ⟨s, h1, h2.trans ?_, by rw [h3, insKT_map]; rfl⟩
    rw [List.zipIdx_cons]
    exact ((insKT_perm key (a, n) acc).append_right _).trans (List.perm_middle (l₁ := acc)).symm
def tagK (l : List α) : Array (α × Nat) := (l.zipIdx).toArray
theorem tagK_size (l : List α) : (tagK l).size = l.length := by simp [tagK]
theorem tagK_at [Inhabited α] {l : List α} {i : Nat} {a : α} (h : l[i]? = some a) : (tagK l)[i]! = (a, i) := by
  have hi := (List.getElem?_eq_some_iff.1 h).1
  rw [getElem!_pos _ _ (by simpa [tagK] using hi)]
  simp [tagK, (List.getElem?_eq_some_iff.1 h).2]
/-- the tagged elements in ascending order are one list -/
theorem sortedK_eq [Inhabited α] {lt : α → α → Bool} (hlt : ∀ x y, lt x y = decide (key x < key y)) {l : List α} {r : Array (α × Nat)} (hp : PermIn 0 l.length (tagK l) r) (ht : TS lt 0 l.length r) : r.toList.map (·.1) = sortK key l := by
  obtain ⟨s, h1, h2, h3⟩ := foldK_sorted (key := key) l 0 [] List.Pairwise.nil (fun b hb => by cases hb)
  obtain ⟨hs, _, hq⟩ := hp
  rw [tagK_size] at hs
  have e1 : (r.extract 0 l.length).toList = r.toList := by simp [← hs]
  have e2 : ((tagK l).extract 0 l.length).toList = l.zipIdx := by
    simp only [tagK, List.extract_toArray, List.extract_eq_take_drop, List.drop_zero, Nat.sub_zero]
    exact List.take_of_length_le (by simp)
  rw [e1, e2] at hq
  have tk_of : ∀ {x y : α × Nat}, TL lt x y → TK key x y := fun {x y} h => by
    unfold TL at h
    rw [hlt, hlt] at h
    simp at h
    unfold TK
    omega
  have hr : r.toList.Pairwise (TK key) := by
    rw [List.pairwise_iff_getElem]
    intro i j hi hj hij
    have hj' : j < r.size := by simpa using hj
    have hi' : i < r.size := by simpa using hi
    have := ht i j (Nat.zero_le _) hij (by omega)
    rw [getElem!_pos r i hi', getElem!_pos r j hj'] at this
    simpa using tk_of this
  have : r.toList = s := by
    refine List.Perm.eq_of_pairwise (le := TK key) (fun a b _ _ g1 g2 => ?_) hr h1 (hq.trans (by simpa using h2.symm))
    unfold TK at g1 g2
    omega
  rw [this, h3]
  rfl
theorem swoK {lt : α → α → Bool} (hlt : ∀ x y, lt x y = decide (key x < key y)) : SWO lt := by
  refine ⟨fun x => by rw [hlt]; simp, fun x y z h1 h2 => ?_, fun x y z h1 h2 => ?_⟩ <;> rw [hlt] at * <;> simp at * <;> omega
end
end Go.Proofs.Ytpeokpnjnmgloaa
