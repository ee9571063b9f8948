/- The sanity check of the shop's laws. -/
import Derived.Test.YtcpnfcnobnjhdaaShopApi
namespace Go.Proofs.Ytcpnfcnobnjhdaa
open Go.RowKit
def p0 : Shop := ⟨480, 960, 1, [], [0], []⟩
theorem p0_valid : validShop p0 = true := by decide
theorem p0_next : nextF p0 900 90 = 1920 := by
  apply next_eq
  refine ⟨by omega, by decide, fun r' h1 h2 => shiftB_no ?_⟩
  right
  show r' % 1440 < 480 ∨ 960 < r' % 1440 + 90
  omega
theorem p0_after : afterF p0 900 90 = 1950 := by
  apply after_eq (by omega)
  have hv := valid_facts p0_valid
  refine ⟨by decide, fun r' h => ?_⟩
  have h1 := (oB_mono hv (t := r') (u := 1949) (by omega)).1
  have h2 : oB p0 1949 < oB p0 900 + 90 := by decide
  omega

def s0 (b : Nat) : Sh := ⟨p0, none, 0, some ⟨b, 0, none⟩, 1, none, 0⟩
theorem s0_at {w : World} {b : Nat} (h : Blk w b 3 #[.int .i64 0]) : ShAt w w.heap.size (s0 b) :=
  ⟨Slc.nil_, (fun i x hi => by
    cases i with
    | zero =>
      simp [s0, p0] at hi
      subst hi
      exact ⟨b, 0, rfl, h.lt, fun j v hv => by
        cases j with
        | zero => simp [intEnc] at hv; subst hv; exact h.cell_ 0 rfl
        | succ j => simp [intEnc] at hv⟩
    | succ i => simp [s0, p0] at hi), fun i l hi => by simp [s0, p0] at hi⟩
theorem s0_next (b : Nat) : nextV (s0 b).p 900 90 = .tuple #[.int .i64 1920, .int .i64 0] := by
  show nextV p0 900 90 = _
  rw [nextV_ok (by omega) (by omega) (by omega) (by decide), p0_next]
theorem s0_after (b : Nat) : afterV (s0 b).p 900 90 = .tuple #[.int .i64 1950, .int .i64 0] := by
  show afterV p0 900 90 = _
  rw [afterV_ok (by omega) (by omega) (by omega) (by decide), p0_after]

theorem first_any (w : World) : Calls Try.prog 20 #[] w fun e w' => e = .returned (.bool true) ∧ Below w.heap.size w w' := by
  have hk0 := (Blk.new w 3 #[.int .i64 0]).alloc (.cells #[.int .i64 480, .int .i64 960, .slice none 0 0, .int .i64 1, .slice (some ⟨w.heap.size, 0, none⟩) 1 1, .slice none 0 0] 25)
  have hk1 := Blk.new (w.alloc (.cells #[.int .i64 0] 3)) 25 #[.int .i64 480, .int .i64 960, .slice none 0 0, .int .i64 1, .slice (some ⟨w.heap.size, 0, none⟩) 1 1, .slice none 0 0]
  have hw := ((Below.refl w.heap.size w).alloc (Nat.le_refl _) (.cells #[.int .i64 0] 3)).alloc (by simp) (.cells #[.int .i64 480, .int .i64 960, .slice none 0 0, .int .i64 1, .slice (some ⟨w.heap.size, 0, none⟩) 1 1, .slice none 0 0] 25)
  have e1 : (w.alloc (.cells #[.int .i64 0] 3)).heap.size = w.heap.size + 1 := by simp
  rw [e1] at hk1
  go_enter Try.func20, Try.ntmps20
  go_wp2_with fail
  generalize (w.alloc (.cells #[.int .i64 0] 3)).alloc (.cells #[.int .i64 480, .int .i64 960, .slice none 0 0, .int .i64 1, .slice (some ⟨w.heap.size, 0, none⟩) 1 1, .slice none 0 0] 25) = W at *
  refine (apiNext_any (s0 w.heap.size) 900 90 W (s0_at hk0) p0_valid).mono ?_
  rintro e w2 ⟨rfl, hb⟩
  rw [s0_next]
  have hk2 := hk0.below hb hk0.lt
  have hk3 := hk1.below hb hk1.lt
  have hw2 := hw.trans (hb.mono hw.size)
  have c0 := hk3.cell_ 0 rfl
  have c1 := hk3.cell_ 1 rfl
  have c2 := hk3.cell_ 2 rfl
  have c3 := hk3.cell_ 3 rfl
  have c4 := hk3.cell_ 4 rfl
  have c5 := hk3.cell_ 5 rfl
  go_wp2_with fail
  refine (apiAfter_any (s0 w.heap.size) 900 90 w2 (s0_at hk2) p0_valid).mono ?_
  rintro e w3 ⟨rfl, hb3⟩
  rw [s0_after]
  go_wp2_with fail
  go_ret
  exact ⟨rfl, hw2.trans (hb3.mono hw2.size)⟩
end Go.Proofs.Ytcpnfcnobnjhdaa
