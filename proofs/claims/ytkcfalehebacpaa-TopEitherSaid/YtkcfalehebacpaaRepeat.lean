/- slices.Repeat of one number. -/
import Derived.Test.YtkcfalehebacpaaMatchM
import Derived.Shelf.Bits.Mul64
import Derived.Laws.CopyOwn
import Derived.Outline
namespace Go.Proofs.Ytkcfalehebacpaa
open Go Go.RowKit
set_option maxRecDepth 100000 in
set_option maxHeartbeats 1000000 in
theorem mul64_any (x y : Nat) (hx : x < 18446744073709551616) (hy : y < 18446744073709551616) (w : World) :
    Calls Try.prog 111 #[.int .u64 x, .int .u64 y] w fun e w' => e = .returned (.tuple #[.int .u64 ((x * y / 18446744073709551616 : Nat) : Int), .int .u64 ((x * y % 18446744073709551616 : Nat) : Int)]) ∧ w = w' := by
  obtain ⟨bd, bt, bw, hhi⟩ := Lib.mul64_hi x y hx hy
  have ba := Lib.half_mul_le (a := x / 4294967296) (b := y / 4294967296) (by omega) (by omega)
  have bb := Lib.half_mul_le (a := x / 4294967296) (b := y % 4294967296) (by omega) (by omega)
  have bc := Lib.half_mul_le (a := x % 4294967296) (b := y / 4294967296) (by omega) (by omega)
  have ba' : x / 4294967296 * (y / 4294967296) < 18446744073709551616 := by omega
  have bb' : x / 4294967296 * (y % 4294967296) < 18446744073709551616 := by omega
  have bc' : x % 4294967296 * (y / 4294967296) < 18446744073709551616 := by omega
  have bh1 : x / 4294967296 * (y / 4294967296) + (x / 4294967296 * (y % 4294967296) + x % 4294967296 * (y % 4294967296) / 4294967296) / 4294967296 < 18446744073709551616 := by omega
  have bh : x / 4294967296 * (y / 4294967296) + (x / 4294967296 * (y % 4294967296) + x % 4294967296 * (y % 4294967296) / 4294967296) / 4294967296 + ((x / 4294967296 * (y % 4294967296) + x % 4294967296 * (y % 4294967296) / 4294967296) % 4294967296 + x % 4294967296 * (y / 4294967296)) / 4294967296 < 18446744073709551616 := by omega
  go_enter Try.func111, Try.ntmps111
  go_wp2
  simp only [Mul64.maskN x hx, Mul64.maskN y hy, Mul64.divN, Mul64.mulN, Mul64.addN, Mul64.wrapN _ bd, Mul64.wrapN _ bb', Mul64.wrapN _ bt, Mul64.maskN _ bt, Mul64.wrapN _ bc', Mul64.wrapN _ bw, Mul64.wrapN _ ba', Mul64.wrapN _ bh1, Mul64.wrapN _ bh, Mul64.wrapM (x * y)]
  rw [hhi]
  go_ret2
  exact ⟨rfl, rfl⟩
theorem mul_one (n : Nat) (hn : n ≤ 1000) (w : World) : Calls Try.prog 85 #[.int .u64 1, .int .u64 n] w fun e w' => e = .returned (.tuple #[.int .u64 0, .int .u64 n]) ∧ w = w' := by
  have h := mul64_any 1 n (by omega) (by omega)
  rw [Nat.one_mul, Nat.div_eq_of_lt (by omega), Nat.mod_eq_of_lt (by omega)] at h
  go_enter Try.func85, Try.ntmps85
  go_wp2_with (go_at_call 111; refine (h _).mono ?_; rintro e w' ⟨rfl, rfl⟩)
  go_ret2
  exact ⟨rfl, rfl⟩
theorem et_ints : ElemT Try.prog 26 3 1 := elemT_mk Try.underlying26 (z := .int .i64 0) (bytes := 8) (by kernel_rfl) rfl (by omega) (by omega)
theorem run_slice_to {P : Program} {t e : TypeId} {sz : Nat} (he : ElemT P t e sz) (A : Option Addr) (n c k : Nat) (hk : k ≤ c) (w : World) :
    (Instr.sliceAt t (.slice A n c) none (some (.int .i64 k)) none).run P w = .ok (.slice A k c) w := by
  obtain ⟨i, z, bytes, ht, hi, hz, hsize, _⟩ := he
  have hel : P.elem t = e := by simp [Program.elem, ht]
  rw [← hel] at ht hi
  rw [run_sliceAt_slice (h := ht), run_slice_h (ht := ht) (h0 := by omega) (h2 := by omega)]
  subst hsize
  simp [sizeOf, typeInfo, hi, sliced, Result.andThen]
  intro _
  cases A with
  | none => rfl
  | some b => simp [Addr.add]
/-- m numbers -1, then zeros -/
def reps (m n : Nat) : List Value := List.replicate m (.int .i64 (-1)) ++ List.replicate (n - m) (.int .i64 0)
theorem reps_len {m n : Nat} (h : m ≤ n) : (reps m n).length = n := by simp [reps]; omega
theorem reps_get {m n j : Nat} (h : j < m) : (reps m n)[j]? = some (.int .i64 (-1)) := by
  unfold reps
  rw [List.getElem?_append_left (by simpa using h), List.getElem?_replicate, if_pos h]
theorem reps_splice {m n c : Nat} (h : m + c ≤ n) : splice (reps m n) m (List.replicate c (.int .i64 (-1))) = reps (m + c) n := by
  unfold splice reps
  rw [List.take_left' (by simp), List.drop_append, List.length_replicate, List.length_replicate]
  rw [List.drop_eq_nil_of_le (by simp), List.nil_append, List.drop_replicate, ← List.append_assoc, List.replicate_append_replicate]
  congr 2
  omega
set_option maxRecDepth 100000 in
set_option maxHeartbeats 2000000 in
theorem repeat_any (bx n : Nat) (hn : n ≤ 100) (w : World) (hx : Blk w bx 3 #[.int .i64 (-1)]) : Calls Try.prog 63 #[.slice (some ⟨bx, 0, none⟩) 1 1, .int .i64 n] w fun e w' =>
    ∃ b, e = .returned (.slice (some ⟨b, 0, none⟩) n n) ∧ Below w.heap.size w w' ∧ w.heap.size ≤ b ∧ Blk w' b 3 (reps n n).toArray := by
  have hmk : ∀ w, (Instr.makeSlice 26 (.int .i64 n) (.int .i64 n)).run Try.prog w = .ok (.slice (some ⟨w.heap.size, 0, none⟩) n n) (w.alloc (.cells (Array.replicate n (Value.int .i64 0)) 3)) := fun w => by
    have := run_make1 (P := Try.prog) (bytes := 8) (z := .int .i64 0) Try.underlying26 (by kernel_rfl) rfl (by omega) n (by omega) w
    simpa using this
  have HB0 := hide ((Below.refl w.heap.size w).alloc (Nat.le_refl _) (.cells (Array.replicate n (Value.int .i64 0)) 3))
  have HG : Hid ((w.alloc (.cells (Array.replicate n (Value.int .i64 0)) 3)).heap[w.heap.size]? = some (.cells (reps 0 n).toArray 3 (0, 0))) := by
    have h := Blk.new w 3 (Array.replicate n (Value.int .i64 0))
    show _ = _
    unfold reps
    simpa [Blk] using h
  have HX := hide (hx.alloc (.cells (Array.replicate n (Value.int .i64 0)) 3))
  obtain ⟨c1, hc1⟩ : ∃ c1, c1 = min 1 n := ⟨_, rfl⟩
  have HC1 := hide hc1
  have hc1n : c1 ≤ n := by omega
  have hc12 : c1 ≤ 1 := by omega
  have hcp : 0 < n → 0 < c1 := by omega
  have HCP := hide hcp
  have HSRC : Hid (∀ (j : Nat) v, (List.replicate c1 (Value.int .i64 (-1)))[j]? = some v → (w.alloc (.cells (Array.replicate n (Value.int .i64 0)) 3)).cell? ((⟨bx, 0, none⟩ : Addr).add j) = some v) := fun j v hj => by
    rw [List.getElem?_replicate] at hj
    split at hj
    · rename_i hlt
      injection hj with hj
      subst hj
      obtain rfl : j = 0 := by omega
      exact HX.out.cell_ 0 rfl
    · cases hj
  clear hc1 hx hcp
  go_enter Try.func63, Try.ntmps63
  go_wp2_with (first | (go_at_call 85; refine (mul_one n (by omega) _).mono ?_; rintro e w' ⟨rfl, rfl⟩) | (refine wpList_copy_splice rfl _ _ _ _ rfl 3 Try.underlying26 (by kernel_rfl) (some ⟨w.heap.size, 0, none⟩) (some ⟨bx, 0, none⟩) n n 1 1 rfl rfl w.heap.size 0 (reps 0 n) _ HG.out (List.replicate c1 (.int .i64 (-1))) (by rw [List.length_replicate]; exact HC1.out) (fun _ => ⟨rfl, _, rfl, HSRC.out⟩) (by rw [List.length_replicate, reps_len (Nat.zero_le _)]; omega) (fun v hv => by rw [List.mem_replicate] at hv; rw [hv.2]; rfl) w.heap.size w HB0.out (Nat.le_refl _) ?_; intro W hg2 hb2))
  rw [reps_splice (by omega)] at hg2
  clear hmk
  go_loopw [8] (fun x W => ∃ m : Nat, x = .int .i64 m ∧ m ≤ n ∧ (0 < n → 0 < m) ∧ Hid (W.heap[w.heap.size]? = some (.cells (reps m n).toArray 3 (0, 0))) ∧ Below w.heap.size w W) (fun x _ => n - (intOf x).toNat)
  case atStart => exact ⟨c1, by simp, hc1n, HCP.out, by simpa using hg2, hb2⟩
  case round =>
    clear hg2 hb2
    obtain ⟨W, rfl⟩ : ∃ W : World, W = wr := ⟨_, rfl⟩
    obtain ⟨m, rfl, hm, hm0, hg, hb⟩ := hrel
    by_cases hlt : m < n
    · have hmn : (m : Int) < (n : Int) := by omega
      obtain ⟨c2, hc2⟩ : ∃ c2, c2 = min m (n - m) := ⟨_, rfl⟩
      have HC2 := hide hc2
      have hc2n : m + c2 ≤ n := by omega
      have hc2m : m < m + c2 := by omega
      have hc2l : c2 ≤ m := by omega
      have hs1 : ∀ w', (Instr.sliceAt 26 (.slice (some ⟨w.heap.size, 0, none⟩) n n) (some (.int .i64 m)) none none).run Try.prog w' = .ok (.slice (some ⟨w.heap.size, m, none⟩) (n - m) (n - m)) w' := fun w' => by
        have := run_slice_from et_ints (some ⟨w.heap.size, 0, none⟩) n n m (by omega) w'
        unfold dropA at this
        rw [if_neg (by omega), Option.map_some, Addr.add_lit, Nat.zero_add, Nat.mul_one] at this
        exact this
      have hs2 : ∀ w', (Instr.sliceAt 26 (.slice (some ⟨w.heap.size, 0, none⟩) n n) none (some (.int .i64 m)) none).run Try.prog w' = .ok (.slice (some ⟨w.heap.size, 0, none⟩) m n) w' := fun w' => run_slice_to et_ints (some ⟨w.heap.size, 0, none⟩) n n m (by omega) w'
      have e1 : IntKind.i64.wrap ((m : Int) + (c2 : Int)) = ((m + c2 : Nat) : Int) := by rw [IntWalk.i64_in _ (by omega)]; omega
      have HSRC : Hid (∀ (j : Nat) v, (List.replicate c2 (Value.int .i64 (-1)))[j]? = some v → W.drew.cell? ((⟨w.heap.size, 0, none⟩ : Addr).add j) = some v) := fun j v hj => by
        rw [List.getElem?_replicate] at hj
        split at hj
        · rename_i hlt
          injection hj with hj
          subst hj
          have : Blk W w.heap.size 3 (reps m n).toArray := hg.out
          have := this.cell_ j (v := .int .i64 (-1)) (by simpa using reps_get (n := n) (show j < m by omega))
          rw [Addr.add_lit, Nat.zero_add]
          exact this
        · cases hj
      have hgd : W.drew.heap[w.heap.size]? = some (.cells (reps m n).toArray 3 (0, 0)) := hg.out
      have hbd : Below w.heap.size w W.drew := hb.drew
      clear hc2
      go_wp2_with fail
      go_region_law (refine step_copy_splice rfl (.tmp 41) (.tmp 44) 26 26 rfl 3 Try.underlying26 (by kernel_rfl) (some ⟨w.heap.size, m, none⟩) (some ⟨w.heap.size, 0, none⟩) (n - m) (n - m) m n (by kernel_rfl) (by kernel_rfl) w.heap.size m (reps m n) 3 hgd (List.replicate c2 (.int .i64 (-1))) (by rw [List.length_replicate]; exact HC2.out) (fun _ => ⟨rfl, _, rfl, HSRC.out⟩) (by rw [List.length_replicate, reps_len hm]; omega) (fun v hv => by rw [List.mem_replicate] at hv; rw [hv.2]; rfl) w.heap.size w hbd (Nat.le_refl _) ?_; intro W2 hg2 hb2)
      all_goals
        rw [reps_splice (by omega)] at hg2
        go_wp2_with fail
        go_simp
        go_roundw
        case rel => exact ⟨m + c2, by go_num, by omega, fun _ => by omega, hg2⟩
        case measure => simp [intOf]; omega
    · obtain rfl : m = n := by omega
      go_wp2_with fail
      go_ret
      exact ⟨w.heap.size, rfl, hb, Nat.le_refl _, hg.out⟩
end Go.Proofs.Ytkcfalehebacpaa
