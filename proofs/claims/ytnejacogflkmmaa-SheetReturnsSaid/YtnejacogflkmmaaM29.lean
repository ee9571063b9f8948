/- Parts of the proofs of this seat: BalA. Each part says what it proves; no condition beyond those stated there. -/
import Derived.Test.YtnejacogflkmmaaM14
import Derived.Test.YtnejacogflkmmaaM28

/- Balance of a store in memory; two balances compared. -/
namespace Go.Proofs.Ytnejacogflkmmaa
open Go Go.RowKit
def pA (x : Piece) : Int := if x.use = 0 then x.width * x.length else 0
def pU (x : Piece) : Int := if x.use = 0 then 0 else x.width * x.length
def stockF (s : SS) : Int := sumM areaS s.items
def freeF (s : SS) : Int := sumM pA s.pieces
def usedF (s : SS) : Int := sumM pU s.pieces
theorem zip_sum {w : World} : ∀ {L : List (Int × Sheet)} {M : List (Int × Value)}, Zip (ItV w) L M → sumV wlV M = sumM areaS L
  | [], [], _ => rfl
  | [], q :: M, h => by have := h.1; simp at this
  | p :: L, [], h => by have := h.1; simp at this
  | p :: L, q :: M, h => by
    obtain ⟨⟨h1, A, c, h2, _⟩, h3⟩ := h.cons
    have ih := zip_sum h3
    rw [sumM_cons, ← ih]
    show (wlV q.2 + (M.map fun p => wlV p.2).sum) = _
    rw [h2]; rfl
theorem kv_sum (f : Value → Int) (g : Piece → Int) (h : ∀ x : Piece, f x.val = g x) : ∀ L : List (Int × Piece), sumV f (L.map (kv Piece.val)) = sumM g L
  | [] => rfl
  | p :: L => by
    have ih := kv_sum f g h L
    rw [sumM_cons, ← ih, ← h]; rfl
theorem balance_any (p : Fp) (s : SS) (w : World) (hX : StA w p s) (hI : Inv s) (hF : Few s) :
    Calls Try.prog 27 #[.pointer (some ⟨p.g, 0, none⟩)] w fun e w' => e = .returned (.agg #[.int .i64 s.received, .int .i64 (stockF s), .int .i64 (freeF s), .int .i64 (usedF s), .int .i64 s.waste]) ∧ Below w.heap.size w w' := by
  obtain ⟨MI, hM, hZ⟩ := hX.items
  have e1 := zip_sum hZ
  have e2 : sumV plV (s.pieces.map (kv Piece.val)) = freeF s := kv_sum _ _ (fun x => rfl) _
  have e3 : sumV puV (s.pieces.map (kv Piece.val)) = usedF s := kv_sum _ _ (fun x => rfl) _
  refine (bal_any p.g w _ hX.blk p.ri p.rp s.received s.waste rfl rfl rfl rfl rfl MI _ hM hX.pieces (fun q hq => ?_) (by rw [hZ.1]; exact hF.it) (fun q hq => ?_) (by rw [List.length_map]; exact hF.pc)).mono fun e w' ⟨he, hb⟩ => ⟨by rw [he, e1, e2, e3]; rfl, hb⟩
  · obtain ⟨i, hi⟩ := List.getElem?_of_mem hq
    have hl : i < s.items.length := by rw [← hZ.1]; exact (List.getElem?_eq_some_iff.1 hi).1
    obtain ⟨h1, A, c, h2, _⟩ := hZ.2 i s.items[i] q (List.getElem?_eq_getElem hl) hi
    have ho := (hI.it _ _ (look_mem hI.ki (k := s.items[i].1) (v := s.items[i].2) (List.getElem_mem hl))).2
    have hw := ho.w
    have hl2 := ho.l
    exact ⟨_, _, _, _, _, _, _, _, _, _, _, h2, by omega, hw.2, by omega, hl2.2⟩
  · obtain ⟨x, hx, rfl⟩ := List.mem_map.1 hq
    have ho := (hI.pc _ _ (look_mem hI.kp hx)).2
    have hw := ho.w
    have hl2 := ho.l
    exact ⟨_, _, _, _, _, _, _, _, rfl, by omega, hw.2, by omega, hl2.2⟩
theorem eql_bal (a b c d e : Int) (w : World) : (binOp .eql 57 (.agg #[.int .i64 a, .int .i64 b, .int .i64 c, .int .i64 d, .int .i64 e]) (.agg #[.int .i64 a, .int .i64 b, .int .i64 c, .int .i64 d, .int .i64 e])).run Try.prog w = .ok (.bool true) w := by
  have he := eq_bal a b c d e a b c d e w
  simp [binOp, Op.equal, Op.maxDepth, he]
section
variable {s : SS} {x : Piece}
/-- what Return does to the areas -/
theorem back_free (h : Inv s) (hx : look s.pieces x.id = some x) (hu : x.use = 0) : freeF { s with pieces := del s.pieces x.id } = freeF s - x.width * x.length ∧ usedF { s with pieces := del s.pieces x.id } = usedF s := by
  unfold freeF usedF
  constructor
  · show sumM pA (del s.pieces x.id) = _
    rw [sum_del pA h.kp hx]
    have : pA x = x.width * x.length := by unfold pA; rw [if_pos hu]
    omega
  · show sumM pU (del s.pieces x.id) = _
    rw [sum_del pU h.kp hx]
    have : pU x = 0 := by unfold pU; rw [if_pos hu]
    omega
theorem back_waste (_h : Inv s) (hx : look s.pieces x.id = some x) (hu : x.use = 0) (hc : x.width < s.rules.minWidth ∨ x.length < s.rules.minLength) :
    backS s x.id = { s with pieces := del s.pieces x.id, waste := s.waste + x.width * x.length } := by
  unfold backS; rw [hx]; dsimp only; rw [if_pos hu]; unfold backFn; rw [if_pos hc]
theorem back_item (_h : Inv s) (hx : look s.pieces x.id = some x) (hu : x.use = 0) (hc : ¬ (x.width < s.rules.minWidth ∨ x.length < s.rules.minLength)) :
    backS s x.id = { s with pieces := del s.pieces x.id, items := put s.items x.id (backItem s x) } := by
  unfold backS; rw [hx]; dsimp only; rw [if_pos hu]; unfold backFn; rw [if_neg hc]
theorem no_item (h : Inv s) (hx : look s.pieces x.id = some x) : look s.items x.id = none := by
  cases e : look s.items x.id with
  | none => rfl
  | some y => have := h.di _ _ e; rw [hx] at this; cases this
theorem back_stock (h : Inv s) (hx : look s.pieces x.id = some x) : stockF { s with pieces := del s.pieces x.id, items := put s.items x.id (backItem s x) } = stockF s + x.width * x.length := by
  unfold stockF
  show sumM areaS (put s.items x.id (backItem s x)) = _
  rw [sum_put_new areaS (no_item h hx)]; rfl
theorem sum_split : ∀ L : List (Int × Piece), sumM areaP L = sumM pA L + sumM pU L
  | [] => rfl
  | q :: L => by
    have ih := sum_split L
    rw [sumM_cons, sumM_cons, sumM_cons, ih]
    have : areaP q.2 = pA q.2 + pU q.2 := by unfold areaP pA pU; split <;> omega
    omega
theorem areas_bd (h : Inv s) (f : Few s) : 0 ≤ stockF s ∧ 0 ≤ freeF s ∧ 0 ≤ usedF s ∧ 0 ≤ s.waste ∧ stockF s + freeF s + usedF s + s.waste = s.received ∧ s.received ≤ 1000000000000000 := by
  have h1 := h.ba
  have h2 : 0 ≤ sumM areaS s.items := sum_nonneg fun q hq => (item_area h (look_mem h.ki hq)).1
  have h3 : 0 ≤ sumM pA s.pieces := sum_nonneg fun q hq => by
    have := (piece_area h (look_mem h.kp hq)).1
    unfold pA; split <;> omega
  have h4 : 0 ≤ sumM pU s.pieces := sum_nonneg fun q hq => by
    have := (piece_area h (look_mem h.kp hq)).1
    unfold pU; split <;> omega
  have h5 := sum_split s.pieces
  have h6 := f.re
  have h7 := h.wa
  unfold stockF freeF usedF
  omega
end
end Go.Proofs.Ytnejacogflkmmaa
