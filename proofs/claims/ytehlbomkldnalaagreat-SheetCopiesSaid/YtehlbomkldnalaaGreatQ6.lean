/- Parts of the proofs of this seat: Keys. Each part says what it proves; no condition beyond those stated there. -/
import Derived.Test.YtehlbomkldnalaaGreatQ3
import Derived.Test.YtehlbomkldnalaaGreatQ4
import Derived.Test.YtehlbomkldnalaaGreatQ5

/- The keys of a map in order. -/
namespace Go.Proofs.YtehlbomkldnalaaGreat
open Go Go.RowKit Go.Maps Go.Sort Go.Shelf Go.MapKept
open Go.WideElems (Fit rd rg)
def anyR : Value → Option (DataW Unit × List MemPlace) := fun _ => some (.nil, [])
def KeyIn (n : Int) : Prop := -9223372036854775808 ≤ n ∧ n ≤ 9223372036854775807
theorem key_wf {n : Int} (h : KeyIn n) : (Lit.int .i64 n).wf = true := by
 have h1 : IntKind.i64.min = -9223372036854775808 := by decide
 have h2 : IntKind.i64.max = 9223372036854775807 := by decide
 show (decide (IntKind.i64.min ≤ n) && decide (n ≤ IntKind.i64.max)) = true
 rw [h1, h2, decide_eq_true h.1, decide_eq_true h.2]; rfl
theorem rd_int {n : Int} (h : KeyIn n) {x : MapEntry} (hx : x.key = .int .i64 n) : Go.WideElems.rd Tryz.prog 3 anyR x = some (.int .i64 n, .nil) := by
 have hw := key_wf h
 unfold Go.WideElems.rd
 simp [hx, keyOf, Tryz.underlying3, mapKey, hw, anyR]
set_option maxRecDepth 100000 in
theorem MapOf.owns {w : World} {r : Nat} {M : List (Int × Value)} (h : MapOf w r M) (hk : ∀ q ∈ M, KeyIn q.1) (hl : M.length ≤ maxLen) :
  ∃ D : DataW Unit, w.ownsMap Tryz.prog 3 anyR r M.length D ∧ (intKeys D).Perm (M.map (·.1)) ∧ Maps.size D = M.length := by
 obtain ⟨es, clock, hb, hs, hks, rfl⟩ := h
 have hkey : ∀ x ∈ es.toList, x.key = .int .i64 (keyInt x.key) ∧ KeyIn (keyInt x.key) := fun x hx => ⟨key_of (hks x hx), hk _ (List.mem_map.2 ⟨x, hx, rfl⟩)⟩
 have hrg : ∀ x ∈ es.toList, Go.WideElems.rg Tryz.prog 3 anyR x = (.int .i64 (keyInt x.key), .nil) := fun x hx => by
  unfold Go.WideElems.rg
  rw [rd_int (hkey x hx).2 (hkey x hx).1]; rfl
 refine ⟨_, ⟨es, clock, hb, ⟨by simpa using hl, hs, fun x hx => ⟨_, rd_int (hkey x hx).2 (hkey x hx).1⟩⟩, by simp, rfl⟩, ?_, ?_⟩
 ·show (((es.toList.map (Go.WideElems.rg Tryz.prog 3 anyR)).foldr DataW.insert []).map fun p => Go.intOf p.1).Perm _
  refine ((Go.WideShapes.sorted_perm _).map _).trans (List.Perm.of_eq ?_)
  rw [List.map_map, List.map_map]
  refine List.map_congr_left fun x hx => ?_
  show Go.intOf (Go.WideElems.rg Tryz.prog 3 anyR x).1 = keyInt x.key
  rw [hrg x hx]; rfl
 ·show ((es.toList.map (Go.WideElems.rg Tryz.prog 3 anyR)).foldr DataW.insert []).length = _
  rw [length_sorted, List.length_map, List.length_map]
theorem sorts_wide (m : Nat) : AnyZI.SortsIn Tryz.prog sortedIRen Fence.wide m :=
 ⟨fun blk off cap ss W hH hblk hsz => callsIn_wide.2 (AnyM.slices_Sort_int sortILays blk off cap ss W hH hblk hsz),
  fun p cap W => callsIn_wide.2 (AnyM.slices_Sort_int_none sortILays p cap W)⟩
def SortedPost (ks : List Int) (w : World) (e : Ending) (w' : World) : Prop :=
 ∃ (A : Option Addr) (c : Nat), e = .returned (.slice A ks.length c) ∧ Slc intEnc 1 w' w'.heap.size A ks ∧ Below w.heap.size w w'
theorem row_slc {w : World} {base : Nat} {v : Value} {ks : List Int} (h : w.ownsRow base 3 1 v ks.length (ks.map encZ)) : ∃ (A : Option Addr) (c : Nat), v = .slice A ks.length c ∧ Slc intEnc 1 w w.heap.size A ks := by
 rcases h.2 with ⟨rfl, hz⟩ | ⟨gb, cap, cur, rfl, hbase, hgb, r1, r2, r3, r4⟩
 ·have hks : ks = [] := List.eq_nil_of_length_eq_zero hz
  subst hks
  exact ⟨none, 0, rfl, Slc.nil_⟩
 ·refine ⟨some ⟨gb, 0, none⟩, cap, rfl, fun i x hx => ⟨gb, 0, rfl, (Array.getElem?_eq_some_iff.1 hgb).1, fun j v hv => ?_⟩⟩
  have hi : i < ks.length := (List.getElem?_eq_some_iff.1 hx).1
  obtain ⟨rfl, rfl⟩ : j = 0 ∧ v = .int .i64 x := by
   cases j with
   | zero => simp [intEnc] at hv; exact ⟨rfl, hv.symm⟩
   | succ j => simp [intEnc] at hv
  simp only [Nat.zero_add, Nat.mul_one, Nat.add_zero]
  rw [cell_of_row w gb i cur 3 (0, 0) hgb]
  have h5 : (cur.toList.take (ks.length * 1))[i]? = some (.int .i64 x) := by rw [r4, List.getElem?_map, hx]; rfl
  rw [List.getElem?_take, if_pos (by omega)] at h5
  simpa using h5
theorem keys_items (mb : Option Nat) (w : World) : Calls Tryz.prog 69 #[.map mb] w fun e w' => e = .returned (.func (.func 82) #[] #[.pointer (some ⟨w.heap.size, 0, none⟩)]) ∧ w' = w.alloc (.cells #[.map mb] 62) :=
 callsIn_wide.1 (AnyZI.keys_in keysILays Fence.wide 5 trivial rfl mb w)
theorem sorted_items (Bm r : Nat) (M : List (Int × Value)) (w : World) (hm : w.cell? ⟨Bm, 0, none⟩ = some (.map (some r))) (hBm : Bm < w.heap.size) (h : MapOf w r M) (hk : ∀ q ∈ M, KeyIn q.1) (hl : M.length ≤ 1000000) :
  Calls Tryz.prog 68 #[.func (.func 82) #[] #[.pointer (some ⟨Bm, 0, none⟩)]] w (SortedPost (keysS M) w) := by
 obtain ⟨D, hown, hp, hsz⟩ := h.owns hk (by unfold maxLen; omega)
 have hseq : SeqGives Fence.wide 2 Tryz.prog 82 #[.pointer (some ⟨Bm, 0, none⟩)] encZ (fun ss => ss.Perm (intKeys D)) (Maps.size D) w :=
  AnyZI.keys_gives (ρ := keysIRen) { keysILays with } Fence.wide _ trivial rfl (by omega) Bm r M.length D w hBm hm hown
 have cS := AnyZI.sorted_in sortedILays Fence.wide 5 trivial trivial trivial trivial rfl (by omega) (sorts_wide _) (enters_of Tryz.func64 (by kernel_rfl) rfl) 82 #[.pointer (some ⟨Bm, 0, none⟩)] trivial (enters_of Tryz.func82 (by kernel_rfl) rfl) _ _ (by rw [hsz]; unfold maxLen; omega) (by rw [hsz]; omega) _ hseq
 refine (callsIn_wide.1 cS).mono ?_
 rintro e w' ⟨v, ss, rfl, hS, hrow, _, hb⟩
 have he : (ss.mergeSort fun x y => decide (x ≤ y)) = keysS M := mergeSort_of_perm_i (hS.trans hp)
 have hlen : ss.length = (keysS M).length := by rw [← he, List.length_mergeSort]
 rw [he, hlen] at hrow
 obtain ⟨A, c, rfl, hsl⟩ := row_slc hrow
 exact ⟨A, c, rfl, hsl, hb⟩
theorem keys_pieces (mb : Option Nat) (w : World) : Calls Tryz.prog 70 #[.map mb] w fun e w' => e = .returned (.func (.func 83) #[] #[.pointer (some ⟨w.heap.size, 0, none⟩)]) ∧ w' = w.alloc (.cells #[.map mb] 63) :=
 callsIn_wide.1 (AnyZI.keys_in keysPLays Fence.wide 5 trivial rfl mb w)
theorem sorted_pieces (Bm r : Nat) (M : List (Int × Value)) (w : World) (hm : w.cell? ⟨Bm, 0, none⟩ = some (.map (some r))) (hBm : Bm < w.heap.size) (h : MapOf w r M) (hk : ∀ q ∈ M, KeyIn q.1) (hl : M.length ≤ 1000000) :
  Calls Tryz.prog 68 #[.func (.func 83) #[] #[.pointer (some ⟨Bm, 0, none⟩)]] w (SortedPost (keysS M) w) := by
 obtain ⟨D, hown, hp, hsz⟩ := h.owns hk (by unfold maxLen; omega)
 have hseq : SeqGives Fence.wide 2 Tryz.prog 83 #[.pointer (some ⟨Bm, 0, none⟩)] encZ (fun ss => ss.Perm (intKeys D)) (Maps.size D) w :=
  AnyZI.keys_gives (ρ := keysPRen) { keysPLays with } Fence.wide _ trivial rfl (by omega) Bm r M.length D w hBm hm hown
 have cS := AnyZI.sorted_in sortedILays Fence.wide 5 trivial trivial trivial trivial rfl (by omega) (sorts_wide _) (enters_of Tryz.func64 (by kernel_rfl) rfl) 83 #[.pointer (some ⟨Bm, 0, none⟩)] trivial (enters_of Tryz.func83 (by kernel_rfl) rfl) _ _ (by rw [hsz]; unfold maxLen; omega) (by rw [hsz]; omega) _ hseq
 refine (callsIn_wide.1 cS).mono ?_
 rintro e w' ⟨v, ss, rfl, hS, hrow, _, hb⟩
 have he : (ss.mergeSort fun x y => decide (x ≤ y)) = keysS M := mergeSort_of_perm_i (hS.trans hp)
 have hlen : ss.length = (keysS M).length := by rw [← he, List.length_mergeSort]
 rw [he, hlen] at hrow
 obtain ⟨A, c, rfl, hsl⟩ := row_slc hrow
 exact ⟨A, c, rfl, hsl, hb⟩
theorem keys_lots (mb : Option Nat) (w : World) : Calls Tryz.prog 74 #[.map mb] w fun e w' => e = .returned (.func (.func 84) #[] #[.pointer (some ⟨w.heap.size, 0, none⟩)]) ∧ w' = w.alloc (.cells #[.map mb] 65) :=
 callsIn_wide.1 (AnyZI.keys_in keysLLays Fence.wide 5 trivial rfl mb w)
theorem sorted_lots (Bm r : Nat) (M : List (Int × Value)) (w : World) (hm : w.cell? ⟨Bm, 0, none⟩ = some (.map (some r))) (hBm : Bm < w.heap.size) (h : MapOf w r M) (hk : ∀ q ∈ M, KeyIn q.1) (hl : M.length ≤ 1000000) :
  Calls Tryz.prog 68 #[.func (.func 84) #[] #[.pointer (some ⟨Bm, 0, none⟩)]] w (SortedPost (keysS M) w) := by
 obtain ⟨D, hown, hp, hsz⟩ := h.owns hk (by unfold maxLen; omega)
 have hseq : SeqGives Fence.wide 2 Tryz.prog 84 #[.pointer (some ⟨Bm, 0, none⟩)] encZ (fun ss => ss.Perm (intKeys D)) (Maps.size D) w :=
  AnyZI.keys_gives (ρ := keysLRen) { keysLLays with } Fence.wide _ trivial rfl (by omega) Bm r M.length D w hBm hm hown
 have cS := AnyZI.sorted_in sortedILays Fence.wide 5 trivial trivial trivial trivial rfl (by omega) (sorts_wide _) (enters_of Tryz.func64 (by kernel_rfl) rfl) 84 #[.pointer (some ⟨Bm, 0, none⟩)] trivial (enters_of Tryz.func84 (by kernel_rfl) rfl) _ _ (by rw [hsz]; unfold maxLen; omega) (by rw [hsz]; omega) _ hseq
 refine (callsIn_wide.1 cS).mono ?_
 rintro e w' ⟨v, ss, rfl, hS, hrow, _, hb⟩
 have he : (ss.mergeSort fun x y => decide (x ≤ y)) = keysS M := mergeSort_of_perm_i (hS.trans hp)
 have hlen : ss.length = (keysS M).length := by rw [← he, List.length_mergeSort]
 rw [he, hlen] at hrow
 obtain ⟨A, c, rfl, hsl⟩ := row_slc hrow
 exact ⟨A, c, rfl, hsl, hb⟩
/-- the keys in order stay where the values turn -/
theorem keysS_map {V U : Type} (f : V → U) (M : List (Int × V)) : keysS (M.map fun p => (p.1, f p.2)) = keysS M := by
 unfold keysS
 rw [List.map_map]; rfl
theorem keysS_kv {V : Type} (f : V → Value) (M : List (Int × V)) : keysS (M.map (kv f)) = keysS M := keysS_map f M
theorem Zip.keys {V : Type} {R : V → Value → Prop} {L : List (Int × V)} {M : List (Int × Value)} (h : Zip R L M) : M.map (·.1) = L.map (·.1) := by
 apply List.ext_getElem?
 intro i
 rw [List.getElem?_map, List.getElem?_map]
 cases hl : L[i]? with
 | none => rw [List.getElem?_eq_none (by rw [h.1]; exact List.getElem?_eq_none_iff.1 hl)]; rfl
 | some p =>
  have hi : i < M.length := by rw [h.1]; exact (List.getElem?_eq_some_iff.1 hl).1
  rw [List.getElem?_eq_getElem hi]
  have := (h.2 i p _ hl (List.getElem?_eq_getElem hi)).1
  simp [this]
theorem Zip.keysS {V : Type} {R : V → Value → Prop} {L : List (Int × V)} {M : List (Int × Value)} (h : Zip R L M) : Go.Proofs.YtehlbomkldnalaaGreat.keysS M = Go.Proofs.YtehlbomkldnalaaGreat.keysS L := by
 unfold Go.Proofs.YtehlbomkldnalaaGreat.keysS
 rw [h.keys]
end Go.Proofs.YtehlbomkldnalaaGreat
