/- The matching of package night: what it is in memory. -/
import Derived.Test.YtkcfalehebacpaaMatchP
import Derived.Test.YtkcfalehebacpaaNFits
import Derived.Test.YtkcfalehebacpaaApp
namespace Go.Proofs.Ytkcfalehebacpaa
open Go Go.RowKit
def intJ (l : List Int) (js : List Value) : Array Value := (l.map (Value.int .i64) ++ js).toArray
def bools (l : List Bool) : Array Value := (l.map Value.bool).toArray
theorem intJ_get {l : List Int} {js : List Value} {i : Nat} {v : Int} (h : l[i]? = some v) : (intJ l js)[i]? = some (.int .i64 v) := by
  have hi := (List.getElem?_eq_some_iff.1 h).1
  unfold intJ
  rw [List.getElem?_toArray, List.getElem?_append_left (by simpa using hi), List.getElem?_map, h]; rfl
theorem intJ_set {l : List Int} {js : List Value} {i : Nat} (h : i < l.length) (v : Int) : (intJ l js).setIfInBounds i (.int .i64 v) = intJ (l.set i v) js := by
  unfold intJ
  rw [List.setIfInBounds_toArray, List.set_append_left _ _ (by simpa using h), List.map_set]
theorem intJ_lt {l : List Int} {js : List Value} {i : Nat} (h : i < l.length) : i < (intJ l js).size := by
  unfold intJ; simp; omega
theorem bools_get {l : List Bool} {i : Nat} {v : Bool} (h : l[i]? = some v) : (bools l)[i]? = some (.bool v) := by
  unfold bools; simp [h]
theorem bools_set {l : List Bool} {i : Nat} (v : Bool) : (bools l).setIfInBounds i (.bool v) = bools (l.set i v) := by
  unfold bools; rw [List.setIfInBounds_toArray, List.map_set]
theorem bools_lt {l : List Bool} {i : Nat} (h : i < l.length) : i < (bools l).size := by unfold bools; simpa using h
/-- lists that lie in the blocks K -/
def SlcIn (K : Nat → Prop) (w : World) (A : Option Addr) (xs : List Int) : Prop :=
  ∀ (i : Nat) x, xs[i]? = some x → ∃ b off, A = some ⟨b, off, none⟩ ∧ K b ∧ w.cell? ⟨b, off + i, none⟩ = some (.int .i64 x)
def NestIn (K : Nat → Prop) (w : World) (A : Option Addr) (ls : List (List Int)) : Prop :=
  ∀ (i : Nat) l, ls[i]? = some l → ∃ b off A' c', A = some ⟨b, off, none⟩ ∧ K b ∧ w.cell? ⟨b, off + i, none⟩ = some (.slice A' l.length c') ∧ SlcIn K w A' l
theorem cell_in {w : World} {p : Addr} {v : Value} (h : w.cell? p = some v) : p.block < w.heap.size := by
  unfold World.cell? at h
  rcases Nat.lt_or_ge p.block w.heap.size with h1 | h1
  · exact h1
  · rw [Array.getElem?_eq_none h1] at h; cases h
theorem Chg.cell_ {S : Nat → Prop} {w w' : World} (hc : Chg S w w') {p : Addr} {v : Value} (h : w.cell? p = some v) (hp : ¬ S p.block) : w'.cell? p = some v := by
  rw [World.cell?_of_block (hc.block _ (cell_in h) hp)]; exact h
section
variable {K S : Nat → Prop} {w w' : World} {A : Option Addr}
theorem SlcIn.chg {xs : List Int} (h : SlcIn K w A xs) (hc : Chg S w w') (hK : ∀ b, K b → ¬ S b) : SlcIn K w' A xs := fun i x hx => by
  obtain ⟨b, off, h1, h2, h3⟩ := h i x hx
  exact ⟨b, off, h1, h2, hc.cell_ h3 (hK b h2)⟩
theorem NestIn.chg {ls : List (List Int)} (h : NestIn K w A ls) (hc : Chg S w w') (hK : ∀ b, K b → ¬ S b) : NestIn K w' A ls := fun i l hl => by
  obtain ⟨b, off, A', c', h1, h2, h3, h4⟩ := h i l hl
  exact ⟨b, off, A', c', h1, h2, hc.cell_ h3 (hK b h2), h4.chg hc hK⟩
end

/-- the address of the places: none where there is no night -/
def adr (bp : Nat) (P : List Int) : Option Addr := if P = [] then none else some ⟨bp, 0, none⟩
theorem adr_pos {bp k : Nat} {P : List Int} (h : k < P.length) : adr bp P = some ⟨bp, 0, none⟩ := by
  unfold adr
  rw [if_neg (by rintro rfl; simp at h)]
theorem adr_set {bp k : Nat} {P : List Int} {v : Int} : adr bp (P.set k v) = adr bp P := by
  unfold adr
  cases P <;> cases k <;> simp
theorem adr_nil {bp : Nat} : adr bp [] = none := rfl
/-- a matching in memory: block g; its places in block bp, its nights in bn, its choices in the blocks K -/
structure Mem (K : Nat → Prop) (w : World) (g : Nat) (AC : Option Addr) (cC cP cN bp bn : Nat) (C : List (List Int)) (N P : List Int) : Prop where
  blk : Blk w g 80 #[.slice AC C.length cC, .slice (adr bp P) P.length cP, .slice (some ⟨bn, 0, none⟩) N.length cN]
  ch : NestIn K w AC C
  places : ∃ js, Blk w bp 3 (intJ P js)
  night : ∃ js, Blk w bn 3 (intJ N js)
  ne : g ≠ bp ∧ g ≠ bn ∧ bp ≠ bn
  kk : ∀ b, K b → b ≠ bp ∧ b ≠ bn
section
variable {K : Nat → Prop} {w w' : World} {g : Nat} {AC : Option Addr} {cC cP cN bp bn : Nat} {C : List (List Int)} {N P : List Int}
theorem Mem.far {S : Nat → Prop} (h : Mem K w g AC cC cP cN bp bn C N P) (hc : Chg S w w') (h1 : ¬ S g) (h2 : ¬ S bp) (h3 : ¬ S bn) (h4 : ∀ b, K b → ¬ S b) : Mem K w' g AC cC cP cN bp bn C N P := by
  obtain ⟨j1, p1⟩ := h.places
  obtain ⟨j2, p2⟩ := h.night
  exact ⟨h.blk.chg hc h1, h.ch.chg hc h4, ⟨j1, p1.chg hc h2⟩, ⟨j2, p2.chg hc h3⟩, h.ne, h.kk⟩
theorem Mem.setP (h : Mem K w g AC cC cP cN bp bn C N P) {js : List Value} {i : Nat} {v : Int} (hi : i < P.length) (hb : Blk w' bp 3 ((intJ P js).setIfInBounds i (.int .i64 v))) (hc : Chg (fun k => k = bp) w w') : Mem K w' g AC cC cP cN bp bn C N (P.set i v) := by
  obtain ⟨j2, p2⟩ := h.night
  rw [intJ_set hi] at hb
  exact ⟨by simpa [adr_set] using h.blk.chg hc h.ne.1, h.ch.chg hc (fun b hb' => (h.kk b hb').1), ⟨js, hb⟩, ⟨j2, p2.chg hc (Ne.symm h.ne.2.2)⟩, h.ne, h.kk⟩
theorem Mem.setN (h : Mem K w g AC cC cP cN bp bn C N P) {js : List Value} {i : Nat} {v : Int} (hi : i < N.length) (hb : Blk w' bn 3 ((intJ N js).setIfInBounds i (.int .i64 v))) (hc : Chg (fun k => k = bn) w w') : Mem K w' g AC cC cP cN bp bn C (N.set i v) P := by
  obtain ⟨j1, p1⟩ := h.places
  rw [intJ_set hi] at hb
  exact ⟨by simpa using h.blk.chg hc h.ne.2.1, h.ch.chg hc (fun b hb' => (h.kk b hb').2), ⟨j1, p1.chg hc h.ne.2.2⟩, ⟨js, hb⟩, h.ne, h.kk⟩
end
def Three (bp bn bs : Nat) (q : Nat) : Prop := q = bp ∨ q = bn ∨ q = bs
def PushPost (K : Nat → Prop) (g : Nat) (AC : Option Addr) (cC cP cN bp bn bs : Nat) (C : List (List Int)) (N P : List Int) (S : List Bool) (job : Nat) (w : World) (e : Ending) (w' : World) : Prop :=
  ∃ r N' P' S', e = .returned (.bool r) ∧ Mem K w' g AC cC cP cN bp bn C N' P' ∧ Blk w' bs 4 (bools S') ∧ Chg (Three bp bn bs) w w' ∧ Mono S S' ∧ (r = true → Succ C N P S job N' P') ∧ (r = false → N' = N ∧ P' = P ∧ Fail C N P S job S')
end Go.Proofs.Ytkcfalehebacpaa
