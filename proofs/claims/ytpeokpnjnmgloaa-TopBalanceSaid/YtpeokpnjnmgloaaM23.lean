/- Parts of the proofs of this seat: CutAll. Each part says what it proves; no condition beyond those stated there. -/
import Derived.Test.YtpeokpnjnmgloaaM15
import Derived.Test.YtpeokpnjnmgloaaM22

/- cutAll: the walk. -/
namespace Go.Proofs.Ytpeokpnjnmgloaa
open Go Go.RowKit
theorem Own.overS {α : Type} {w w' : World} {base : Nat} {e : TypeId} {sz : Nat} {f : α → List Value} {v : Value} {l : List α} {S : Nat → Prop} (h : Own w base e sz f v l) (hc : Chg S w w') (hS : ∀ k, S k → k < base) : Own w' base e sz f v l :=
  h.chgN hc fun k hk hs => by have h1 := (World.ownsRow.lt h k hk).1; have := hS k hs; omega
theorem StA.grownOwn {α : Type} {w w' : World} {p : Fp} {s : SS} {base : Nat} {e : TypeId} {sz : Nat} {f : α → List Value} {v : Value} {l : List α} (h : StA w p s) (hO : Own w base e sz f v l) (he : e ≠ 50) (hS : ∀ k, p.has k → k < base) (hg : w.grownBy w' v.ownBlock) : StA w' p s :=
  h.far (S := fun b => v.ownBlock = some b) (.of_grown' hg fun _ h => h) fun b hb => ⟨fun hp => by have h1 := (World.ownsRow.lt hO b hb).1; have := hS b hp; omega, NoSpan.own hO he hb⟩
theorem cutOne_none (p : Fp) (s : SS) (n : Need) (lot day : Int) (w : World) (hX : StA w p s) (hI : Inv s) (hF : Few s) (hn : NeedOk n) (hd : 0 ≤ day ∧ day ≤ 100000) (hc : cutOneF s n lot day = none) :
    Calls Try.prog 47 #[.pointer (some ⟨p.g, 0, none⟩), .agg #[.int .i64 n.grade, .int .i64 n.colour, .int .i64 n.width, .int .i64 n.length, .int .i64 n.count], .int .i64 lot, .int .i64 day] w fun e w' => e = .returned (.tuple #[.agg zPiece, .bool false]) ∧ Chg p.has w w' := by
  refine (cutOne_any p s n lot day w hX hI hF hn hd).mono ?_
  intro e w' h
  unfold CutPost at h
  rw [hc] at h
  exact ⟨h.1, h.2.2⟩
theorem cutOne_some (p : Fp) (s : SS) (n : Need) (lot day : Int) (w : World) (hX : StA w p s) (hI : Inv s) (hF : Few s) (hn : NeedOk n) (hd : 0 ≤ day ∧ day ≤ 100000) {s' : SS} {q : Piece} (hc : cutOneF s n lot day = some (s', q)) :
    Calls Try.prog 47 #[.pointer (some ⟨p.g, 0, none⟩), .agg #[.int .i64 n.grade, .int .i64 n.colour, .int .i64 n.width, .int .i64 n.length, .int .i64 n.count], .int .i64 lot, .int .i64 day] w fun e w' => e = .returned (.tuple #[.agg #[.int .i64 q.id, .int .i64 q.root, .int .i64 q.lot, .int .i64 q.grade, .int .i64 q.colour, .int .i64 q.width, .int .i64 q.length, .int .i64 q.use], .bool true]) ∧ StA w' p s' ∧ Chg p.has w w' := by
  refine (cutOne_any p s n lot day w hX hI hF hn hd).mono ?_
  intro e w' h
  unfold CutPost at h
  rw [hc] at h
  exact h
def CutAllPost (p : Fp) (s : SS) (n : Need) (lot day : Int) (w : World) (e : Ending) (w' : World) : Prop := match cutAllF n lot day n.count.toNat s with
  | none => e = .returned (.tuple #[.slice none 0 0, .bool false]) ∧ Chg p.has w w'
  | some (s', l) => ∃ A c, e = .returned (.tuple #[.slice A l.length c, .bool true]) ∧ Slc Piece.enc 8 w' w'.heap.size A l ∧ (∀ ad, A = some ad → w.heap.size ≤ ad.block) ∧ StA w' p s' ∧ Chg p.has w w'
set_option maxRecDepth 100000 in
set_option maxHeartbeats 4000000 in
theorem cutAll_any (p : Fp) (s : SS) (n : Need) (lot day : Int) (w : World) (hX : StA w p s) (hI : Inv s) (hF : Room s n.count.toNat) (hn : NeedOk n) (hd : 0 ≤ day ∧ day ≤ 100000) :
    Calls Try.prog 32 #[.pointer (some ⟨p.g, 0, none⟩), .agg #[.int .i64 n.grade, .int .i64 n.colour, .int .i64 n.width, .int .i64 n.length, .int .i64 n.count], .int .i64 lot, .int .i64 day] w (CutAllPost p s n lot day w) := by
  have HI := hide hI
  have HF := hide hF
  have HN := hide hn
  clear hn
  have HD := hide hd
  have hn := Blk.new w 38 #[.int .i64 n.grade, .int .i64 n.colour, .int .i64 n.width, .int .i64 n.length, .int .i64 n.count]
  have hal := (Below.refl w.heap.size w).alloc (Nat.le_refl _) (.cells #[.int .i64 n.grade, .int .i64 n.colour, .int .i64 n.width, .int .i64 n.length, .int .i64 n.count] 38)
  have HS : Hid (∀ k, p.has k → k < w.heap.size + 1) := fun k hk => by have := hX.lt hk; omega
  replace hX := hX.below hal
  have hC : Chg p.has w (w.alloc (.cells #[.int .i64 n.grade, .int .i64 n.colour, .int .i64 n.width, .int .i64 n.length, .int .i64 n.count] 38)) := .of_below hal
  clear hI hF hd hal
  go_enter Try.func32, Try.ntmps32
  have y4 := hn.cell_ 4 (v := .int .i64 n.count) rfl
  go_upto_region 3 with fail
  clear y4
  have hsz : (w.alloc (.cells #[.int .i64 n.grade, .int .i64 n.colour, .int .i64 n.width, .int .i64 n.length, .int .i64 n.count] 38)).heap.size = w.heap.size + 1 := by simp
  generalize w.alloc (.cells #[.int .i64 n.grade, .int .i64 n.colour, .int .i64 n.width, .int .i64 n.length, .int .i64 n.count] 38) = W at *
  obtain ⟨b0, hb0⟩ : ∃ b, w.heap.size = b := ⟨_, rfl⟩
  have HB0 := hide hb0
  rw [hb0] at hn HS hsz ⊢
  clear hb0
  have hsz : b0 + 1 ≤ W.heap.size := by omega
  go_loopw [10, 15] (fun v z wr => ∃ (i : Nat) (si : SS) (ls : List Piece), z = .int .i64 i ∧ (i : Int) ≤ n.count ∧ Hid (cutAllF n lot day i s = some (si, ls)) ∧ ls.length = i ∧ Own wr (b0 + 1) 79 8 Piece.enc v ls ∧ Blk wr b0 38 #[.int .i64 n.grade, .int .i64 n.colour, .int .i64 n.width, .int .i64 n.length, .int .i64 n.count] ∧ StA wr p si ∧ Chg p.has w wr ∧ b0 + 1 ≤ wr.heap.size) (fun _ z _ => n.count.toNat - (intOf z).toNat)
  case atStart => exact ⟨0, s, [], rfl, by have := HN.out.c; omega, rfl, rfl, Own.nil_, hn, hX, hC, hsz⟩
  case round =>
    clear hn hX hC hsz
    obtain ⟨W, rfl⟩ : ∃ X : World, X = wr := ⟨_, rfl⟩
    obtain ⟨i, si, ls, rfl, hi, HA, hll, hO, hn, hX, hC, hsz⟩ := hrel
    by_cases hlt : (i : Int) < n.count
    · have hi50 : i < 50 := by have := HN.out.c; omega
      have hII := cutAll_inv HN.out HI.out HA.out
      have HII := hide hII.1
      have hRM : Room si (n.count.toNat - i) := room_all (k := i) (by rw [show n.count.toNat - i + i = n.count.toNat by omega]; exact HF.out) HA.out
      have HRM := hide hRM.few
      clear hII hRM
      have y0 := hn.cell_ 0 rfl
      have y1 := hn.cell_ 1 rfl
      have y2 := hn.cell_ 2 rfl
      have y3 := hn.cell_ 3 rfl
      have y4 := hn.cell_ 4 rfl
      cases hc : cutOneF si n lot day with
      | none =>
        have HE : Hid (cutAllF n lot day n.count.toNat s = none) := all_no (all_stop HA.out hc) (by omega)
        have HC1 := hide hc
        clear hc
        go_wp2_with fail
        refine (cutOne_none p si n lot day W hX HII.out HRM.out HN.out HD.out HC1.out).mono ?_
        rintro e W2 ⟨rfl, hc2⟩
        have hC2 := hC.trans hc2
        clear y0 y1 y2 y3 y4 hn hX hO hC
        go_wp2_with fail
        go_ret2
        unfold CutAllPost
        rw [HE.out]
        exact ⟨rfl, hC2.alloc _⟩
      | some q9 =>
        obtain ⟨s2, q⟩ := q9
        have HE : Hid (cutAllF n lot day (i + 1) s = some (s2, ls ++ [q])) := all_next HA.out hc
        have HC1 := hide hc
        clear hc
        go_wp2_with fail
        refine (cutOne_some p si n lot day W hX HII.out HRM.out HN.out HD.out HC1.out).mono ?_
        rintro e W2 ⟨rfl, hX2, hc2⟩
        have hC2 := hC.trans hc2
        have hn2 := hn.chgS hX hc2 (by decide)
        have hO2 := hO.overS hc2 HS.out
        have hsz2 : b0 + 1 ≤ W2.heap.size := Nat.le_trans hsz hc2.size
        clear y0 y1 y2 y3 y4 hn hX hO hC hc2 hsz HC1
        have hal := (Below.refl W2.heap.size W2).alloc (Nat.le_refl _) (.cells #[.int .i64 q.id, .int .i64 q.root, .int .i64 q.lot, .int .i64 q.grade, .int .i64 q.colour, .int .i64 q.width, .int .i64 q.length, .int .i64 q.use] 79)
        have hbx := Blk.new W2 79 #[.int .i64 q.id, .int .i64 q.root, .int .i64 q.lot, .int .i64 q.grade, .int .i64 q.colour, .int .i64 q.width, .int .i64 q.length, .int .i64 q.use]
        replace hX2 := hX2.below hal
        replace hn2 := hn2.below hal hn2.lt
        replace hO2 := hO2.below hal
        replace hC2 := hC2.trans (.of_below hal)
        replace hsz2 := Nat.le_trans hsz2 hal.size
        clear hal
        go_upto_region 5 with fail
        generalize W2.alloc (.cells #[.int .i64 q.id, .int .i64 q.root, .int .i64 q.lot, .int .i64 q.grade, .int .i64 q.colour, .int .i64 q.width, .int .i64 q.length, .int .i64 q.use] 79) = W3 at *
        generalize W2.heap.size = bx at *
        have y0 := hbx.cell_ 0 rfl
        have y1 := hbx.cell_ 1 rfl
        have y2 := hbx.cell_ 2 rfl
        have y3 := hbx.cell_ 3 rfl
        have y4 := hbx.cell_ 4 rfl
        have y5 := hbx.cell_ 5 rfl
        have y6 := hbx.cell_ 6 rfl
        have y7 := hbx.cell_ 7 rfl
        have ei : IntKind.i64.wrap ((i : Int) + 1) = ((i + 1 : Nat) : Int) := by rw [IntWalk.i64_in _ (by omega)]; push_cast; rfl
        go_wp2_with (at_builtin; refine wpList_app_own (base := b0 + 1) (f := Piece.enc) (ys := [q]) _ _ rfl rfl et_piece (hO2.alloc _) rfl rfl ((Blk.new W3 79 q.enc.toArray).slc1 rfl) rfl pce_len pce_one (by simp <;> omega) (by simp <;> omega) ?_; intro v6 W6 hO6 hb6 hg6)
        have hal := (Below.refl W3.heap.size W3).alloc (Nat.le_refl _) (.cells q.enc.toArray 79)
        have hX6 := (hX2.below hal).grownOwn (hO2.alloc _) (by decide) HS.out hg6
        have hn6 := (hn2.below hal hn2.lt).below hb6 (by omega)
        have hC6 : Chg p.has w W6 := (hC2.trans (.of_below hal)).trans' (Chg.of_below' (S := fun k => b0 + 1 ≤ k) hb6 fun k hk _ => hk) fun k hk he => by have := HB0.out; omega
        have hsz6 : b0 + 1 ≤ W6.heap.size := Nat.le_trans (Nat.le_trans hsz2 hal.size) hb6.size
        clear y0 y1 y2 y3 y4 y5 y6 y7 hbx hX2 hn2 hO2 hC2 hsz2 hal hb6 hg6
        go_roundw
        case rel => exact ⟨i + 1, s2, ls ++ [q], by go_num, by omega, HE, by simp [hll], hO6, hn6, hX6, hC6, hsz6⟩
        case measure => simp [intOf]; omega
    · have hie : (i : Int) = n.count := by omega
      have HE : Hid (cutAllF n lot day n.count.toNat s = some (si, ls)) := by show _ = _; rw [show n.count.toNat = i by omega]; exact HA.out
      clear hie
      obtain ⟨A, c, rfl, hsl⟩ := hO.form pce_len
      have HOF := hide (hO.from_ (b0 := b0) (by omega))
      go_wp2_with fail
      go_ret2
      unfold CutAllPost
      rw [HE.out]
      exact ⟨A, c, by rw [hll]; rfl, hsl, fun ad h => by rw [HB0.out]; exact HOF.out ad h, hX, hC⟩
end Go.Proofs.Ytpeokpnjnmgloaa
