/- Parts of the proofs of this seat: DoP. Each part says what it proves; no condition beyond those stated there. -/
import Derived.Test.YtnejacogflkmmaaM2
import Derived.Test.YtnejacogflkmmaaM19
import Derived.Test.YtnejacogflkmmaaM21

/- What a call of a script does to a store: plain. -/
namespace Go.Proofs.Ytnejacogflkmmaa
open Go.RowKit
def rollOf (x : CallV) (fs : List Pt) : Roll := ⟨x.id, x.gr, x.co, x.lo, x.ma, x.wi, x.le, fs⟩
def needOf (x : CallV) : Need := ⟨x.ng, x.nq, x.nw, x.nl, x.nk⟩
def kd (x : CallV) : Int := (IntKind.u64.wrap x.kind).tmod 9
noncomputable def expireS (s : SS) (day : Int) : SS := if inB 0 day 100000 then expS s day else s
def recallS (s : SS) (lot : Int) : SS := if (look s.lots lot).isSome then rec2 s lot else s
noncomputable def doF (s : SS) (x : CallV) (fs : List Pt) : SS :=
  if kd x = 0 then recS s (rollOf x fs)
  else if kd x = 1 then takeS s (needOf x) x.day
  else if kd x = 2 then takeS s (needOf x) x.day
  else if kd x = 3 then useS s x.cid x.what
  else if kd x = 4 then backS s x.cid
  else if kd x = 5 then scrapF s x.cid
  else if kd x = 6 then expireS s x.day
  else if kd x = 7 then recallS s x.what
  else s
section
variable {s t : SS} {r : Nat}
theorem expire_inv (h : Inv s) (day : Int) : Inv (expireS s day) ∧ Ext s (expireS s day) := by
  unfold expireS
  split
  · exact ⟨(exp_all h day).1, (exp_all h day).2.1.ext⟩
  · exact ⟨h, Ext.refl s⟩
theorem recall_inv (h : Inv s) (lot : Int) : Inv (recallS s lot) ∧ Ext s (recallS s lot) := by
  unfold recallS
  split
  · exact ⟨(rec_all h lot).1, (rec_all h lot).2.1.ext⟩
  · exact ⟨h, Ext.refl s⟩
theorem do_inv (h : Inv s) (x : CallV) (fs : List Pt) : Inv (doF s x fs) ∧ Ext s (doF s x fs) := by
  unfold doF
  repeat' split
  · exact rec_inv h _
  · exact take_inv h _ _
  · exact take_inv h _ _
  · exact use_inv h _ _
  · exact back_inv h _
  · exact scrap_inv h _
  · exact expire_inv h _
  · exact recall_inv h _
  · exact ⟨h, Ext.refl s⟩
theorem More.room {a b c : Nat} {d : Int} {k : Nat} (h : Room s (r + k)) (m : More s t a b c d) (ha : a ≤ 4 * k) (hb : b ≤ 4 * k) (hc : c ≤ 4 * k) (hd : d ≤ 4 * k) : Room t r :=
  ⟨by have := h.it; have := m.it; omega, by have := h.pc; have := m.pc; omega, by have := h.pa; have := m.pa; omega, by have := h.lo; have := m.lo; omega, by have := h.la; have := m.la; omega, by have := h.re; have := m.re; omega⟩
theorem more_refl (s : SS) : More s s 0 0 0 0 := ⟨Nat.le_refl _, Nat.le_refl _, Nat.le_refl _, Nat.le_refl _, by omega, Int.le_refl _⟩
theorem more_scrap (s : SS) (id : Int) : More s (scrapF s id) 0 0 0 0 := by
  unfold scrapF
  split
  · exact ⟨len_del _ _, Nat.le_refl _, Nat.le_refl _, Nat.le_refl _, by show s.last ≤ s.last + 0; omega, Int.le_refl _⟩
  · split
    · exact ⟨Nat.le_refl _, len_del _ _, Nat.le_refl _, Nat.le_refl _, by show s.last ≤ s.last + 0; omega, Int.le_refl _⟩
    · exact more_refl s
theorem more_scrapI (P : Sheet → Bool) : ∀ (l : List Sheet) (s : SS), More s (scrapI P l s) 0 0 0 0
  | [], s => more_refl s
  | x :: l, s => by
    have : scrapI P (x :: l) s = scrapI P l (if P x then scrapF s x.id else s) := rfl
    rw [this]
    split
    · exact (more_scrap s x.id).trans (more_scrapI P l _)
    · exact more_scrapI P l s
theorem more_scrapP (P : Piece → Bool) : ∀ (l : List Piece) (s : SS), More s (scrapP P l s) 0 0 0 0
  | [], s => more_refl s
  | x :: l, s => by
    have : scrapP P (x :: l) s = scrapP P l (if P x then scrapF s x.id else s) := rfl
    rw [this]
    split
    · exact (more_scrap s x.id).trans (more_scrapP P l _)
    · exact more_scrapP P l s
theorem more_use (s : SS) (a b : Int) : More s (useS s a b) 0 1 0 0 := by
  unfold useS
  split
  · unfold useFn
    split
    · exact ⟨Nat.le_refl _, len_put _ _ _, Nat.le_refl _, Nat.le_refl _, by show s.last ≤ s.last + 0; omega, Int.le_refl _⟩
    · exact ⟨Nat.le_refl _, by omega, Nat.le_refl _, Nat.le_refl _, by omega, Int.le_refl _⟩
  · exact ⟨Nat.le_refl _, by omega, Nat.le_refl _, Nat.le_refl _, by omega, Int.le_refl _⟩
theorem more_back (s : SS) (a : Int) : More s (backS s a) 1 0 0 0 := by
  unfold backS
  have h0 : More s s 1 0 0 0 := ⟨by omega, Nat.le_refl _, Nat.le_refl _, Nat.le_refl _, by omega, Int.le_refl _⟩
  cases hq : look s.pieces a with
  | none => exact h0
  | some q =>
    dsimp only
    split
    · unfold backFn
      split
      · exact ⟨by show s.items.length ≤ _; omega, len_del _ _, Nat.le_refl _, Nat.le_refl _, by show s.last ≤ s.last + 0; omega, Int.le_refl _⟩
      · exact ⟨len_put _ _ _, len_del _ _, Nat.le_refl _, Nat.le_refl _, by show s.last ≤ s.last + 0; omega, Int.le_refl _⟩
    · exact h0
theorem room_rec (h : Room s (r + 1)) (q : Roll) : Room (recS s q) r := by
  unfold recS
  split
  · rename_i he
    have hv : validRoll q = true := by
      unfold recE at he
      split at he
      · assumption
      · exact absurd he (by decide)
    obtain ⟨b1, b2, b3, b4, b5, b6, b7, b8, b9⟩ := roll_bd hv
    have ar := mul_le_mul0 (a := q.width) (b := 150) (c := q.length) (e := 6000) (by omega) b6.2 (by omega) b7.2
    refine ⟨?_, ?_, ?_, ?_, ?_, ?_⟩
    · have := len_put s.items q.id (rollItem q); have := h.it; show (put s.items q.id (rollItem q)).length + 4 * r ≤ _; omega
    · have := h.pc; show s.pieces.length + 4 * r ≤ _; omega
    · have := len_put s.parent q.id (0 : Int); have := h.pa; show (put s.parent q.id 0).length + 4 * r ≤ _; omega
    · have := len_put s.lots q.lot (⟨q.grade, q.colour, q.made⟩ : Kin); have := h.lo; show (put s.lots q.lot ⟨q.grade, q.colour, q.made⟩).length + 4 * r ≤ _; omega
    · have h1 := h.la; have h2 := h.it
      show imax s.last q.id + 4 * (r : Int) ≤ _
      unfold imax; split <;> omega
    · have := h.re
      show s.received + q.width * q.length + 1000000 * (r : Int) ≤ _
      omega
  · exact h.less (by omega)
theorem do_room (h : Room s (r + 50)) (x : CallV) (fs : List Pt) : Room (doF s x fs) r := by
  unfold doF
  repeat' split
  · exact room_rec (h.less (by omega)) _
  · exact take_room h _ _
  · exact take_room h _ _
  · exact More.room (k := 1) (h.less (by omega)) (more_use s _ _) (by omega) (by omega) (by omega) (by omega)
  · exact More.room (k := 1) (h.less (by omega)) (more_back s _) (by omega) (by omega) (by omega) (by omega)
  · exact More.room (k := 1) (h.less (by omega)) (more_scrap s _) (by omega) (by omega) (by omega) (by omega)
  · unfold expireS
    split
    · exact More.room (k := 1) (h.less (by omega)) (more_scrapI _ _ s) (by omega) (by omega) (by omega) (by omega)
    · exact h.less (by omega)
  · unfold recallS
    split
    · exact More.room (k := 1) (h.less (by omega)) ((more_scrapI _ _ s).trans (more_scrapP _ _ _)) (by omega) (by omega) (by omega) (by omega)
    · exact h.less (by omega)
  · exact h.less (by omega)
theorem new_room {r : Shelf} : Room ⟨r, [], [], [], [], 0, 0, 0⟩ 100000 := ⟨by simp, by simp, by simp, by simp, by simp, by simp⟩
end
end Go.Proofs.Ytnejacogflkmmaa
