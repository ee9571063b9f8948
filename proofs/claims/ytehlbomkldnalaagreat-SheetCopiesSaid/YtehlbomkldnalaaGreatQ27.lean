/- Parts of the proofs of this seat: RfRowH. Each part says what it proves; no condition beyond those stated there. -/
import Derived.Test.YtehlbomkldnalaaGreatQ24
import Derived.Test.YtehlbomkldnalaaGreatQ26

/- A roll stored into a row of rolls that is one's own. -/
namespace Go.Proofs.YtehlbomkldnalaaGreat
open Go Go.RowKit
theorem put_ownH {w : World} {base g n c : Nat} {z : List RH} {a : Nat} {x : RH} (hO : Own w base 43 8 RH.enc (.slice (some ⟨g, 0, none⟩) n c) z) (ha : z[a]? = some x) (y : RH) :
  Own (w.setCells g (a * 8) (RH.enc y)) base 43 8 RH.enc (.slice (some ⟨g, 0, none⟩) n c) (z.set a y) ∧ Below base w (w.setCells g (a * 8) (RH.enc y)) := by
 have hal := (List.getElem?_eq_some_iff.1 ha).1
 obtain ⟨b, js, e, hge, hG⟩ := own_blkF hO (by rintro rfl; simp at ha)
 injection e with e
 injection e with e
 subst e
 have e2 : w.setCells g (a * 8) (RH.enc y) = ((((((((w.setCell ⟨g, a * 8, none⟩ (.int .i64 y.id)).setCell ⟨g, a * 8 + 1, none⟩ (.int .i64 y.gr)).setCell ⟨g, a * 8 + 2, none⟩ (.int .i64 y.co)).setCell ⟨g, a * 8 + 3, none⟩ (.int .i64 y.lo)).setCell ⟨g, a * 8 + 4, none⟩ (.int .i64 y.ma)).setCell ⟨g, a * 8 + 5, none⟩ (.int .i64 y.wi)).setCell ⟨g, a * 8 + 6, none⟩ (.int .i64 y.le)).setCell ⟨g, a * 8 + 7, none⟩ (.slice y.A y.n y.c)) := rfl
 have h1 := hG.set_ (a * 8) (.int .i64 y.id)
 rw [List.setIfInBounds_toArray, show a * 8 = a * 8 + 0 from rfl, flat_set (f := RH.enc) (n := 8) rh_len (x' := (⟨y.id, x.gr, x.co, x.lo, x.ma, x.wi, x.le, x.A, x.n, x.c⟩ : RH)) ha (by omega) rfl, Nat.add_zero] at h1
 have h2 := h1.set_ (a * 8 + 1) (.int .i64 y.gr)
 rw [List.setIfInBounds_toArray, flat_set (f := RH.enc) (n := 8) rh_len (x' := (⟨y.id, y.gr, x.co, x.lo, x.ma, x.wi, x.le, x.A, x.n, x.c⟩ : RH)) (List.getElem?_set_self hal) (by omega) rfl, List.set_set] at h2
 have h3 := h2.set_ (a * 8 + 2) (.int .i64 y.co)
 rw [List.setIfInBounds_toArray, flat_set (f := RH.enc) (n := 8) rh_len (x' := (⟨y.id, y.gr, y.co, x.lo, x.ma, x.wi, x.le, x.A, x.n, x.c⟩ : RH)) (List.getElem?_set_self hal) (by omega) rfl, List.set_set] at h3
 have h4 := h3.set_ (a * 8 + 3) (.int .i64 y.lo)
 rw [List.setIfInBounds_toArray, flat_set (f := RH.enc) (n := 8) rh_len (x' := (⟨y.id, y.gr, y.co, y.lo, x.ma, x.wi, x.le, x.A, x.n, x.c⟩ : RH)) (List.getElem?_set_self hal) (by omega) rfl, List.set_set] at h4
 have h5 := h4.set_ (a * 8 + 4) (.int .i64 y.ma)
 rw [List.setIfInBounds_toArray, flat_set (f := RH.enc) (n := 8) rh_len (x' := (⟨y.id, y.gr, y.co, y.lo, y.ma, x.wi, x.le, x.A, x.n, x.c⟩ : RH)) (List.getElem?_set_self hal) (by omega) rfl, List.set_set] at h5
 have h6 := h5.set_ (a * 8 + 5) (.int .i64 y.wi)
 rw [List.setIfInBounds_toArray, flat_set (f := RH.enc) (n := 8) rh_len (x' := (⟨y.id, y.gr, y.co, y.lo, y.ma, y.wi, x.le, x.A, x.n, x.c⟩ : RH)) (List.getElem?_set_self hal) (by omega) rfl, List.set_set] at h6
 have h7 := h6.set_ (a * 8 + 6) (.int .i64 y.le)
 rw [List.setIfInBounds_toArray, flat_set (f := RH.enc) (n := 8) rh_len (x' := (⟨y.id, y.gr, y.co, y.lo, y.ma, y.wi, y.le, x.A, x.n, x.c⟩ : RH)) (List.getElem?_set_self hal) (by omega) rfl, List.set_set] at h7
 have h8 := h7.set_ (a * 8 + 7) (.slice y.A y.n y.c)
 rw [List.setIfInBounds_toArray, flat_set (f := RH.enc) (n := 8) rh_len (x' := y) (List.getElem?_set_self hal) (by omega) rfl, List.set_set, ← e2] at h8
 refine ⟨own_putF (f := RH.enc) (sz := 8) rh_len hO (List.length_set) hG h8, ?_⟩
 rw [e2]
 exact (((((((((Below.refl base w).setCell (p := ⟨g, a * 8, none⟩) hge _).setCell (p := ⟨g, a * 8 + 1, none⟩) hge _).setCell (p := ⟨g, a * 8 + 2, none⟩) hge _).setCell (p := ⟨g, a * 8 + 3, none⟩) hge _).setCell (p := ⟨g, a * 8 + 4, none⟩) hge _).setCell (p := ⟨g, a * 8 + 5, none⟩) hge _).setCell (p := ⟨g, a * 8 + 6, none⟩) hge _).setCell (p := ⟨g, a * 8 + 7, none⟩) hge _)
theorem Blk.hasH {w : World} {g : Nat} {t : TypeId} {cs : Array Value} (h : Blk w g t cs) {i : Nat} (hi : i < cs.size) : ∃ u, w.cell? ⟨g, i, none⟩ = some u := ⟨cs[i], (h.cell i).trans (Array.getElem?_eq_getElem hi)⟩
end Go.Proofs.YtehlbomkldnalaaGreat
