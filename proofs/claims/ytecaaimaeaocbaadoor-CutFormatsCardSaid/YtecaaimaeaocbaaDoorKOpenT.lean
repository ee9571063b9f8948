/- Openers: a tree of cuts, a text, a plate. -/
import Derived.Test.YtecaaimaeaocbaaDoorKOpen2
import Derived.Test.YtecaaimaeaocbaaDoorKTreeM
namespace Go.Proofs.YtecaaimaeaocbaaDoor
open Go.RowKit Go.ChangeShapes Go.WideShapes Go.Deep Go
theorem o_str : Opens Tryd.prog 9 1 IsStr := opens_str Tryd.underlying9 (by kernel_rfl)
/-- the bounds of a node's numbers -/
def NodeIn (v : TV) : Prop := (-9223372036854775808 ≤ v.op ∧ v.op ≤ 9223372036854775807) ∧ (-9223372036854775808 ≤ v.n ∧ v.n ≤ 9223372036854775807) ∧ (0 ≤ v.pc ∧ v.pc ≤ 255)
/-- a tree whose numbers are in their bounds -/
def TreeIn (w : World) : Nat → Tree → TV → Prop
  | 0, _, _ => False
  | f + 1, t, v => (v.op = t.op ∧ v.n = t.n ∧ v.pc = t.pc ∧ v.k = t.ts.length) ∧ NodeIn v ∧ v.k ≤ maxLen ∧ ∃ vs : List TV, vs.length = t.ts.length ∧ Slc TV.enc 4 w w.heap.size v.A vs ∧ ∀ (i : Nat) t' v', t.ts[i]? = some t' → vs[i]? = some v' → TreeIn w f t' v'
theorem TreeIn.at_ {w : World} : ∀ {f : Nat} {t : Tree} {v : TV}, TreeIn w f t v → TreeAt w 0 w.heap.size f t v
  | 0, _, _, h => h
  | f + 1, t, v, ⟨h1, _, hm, vs, h2, h3, h4⟩ => ⟨⟨h1.1, h1.2.1, h1.2.2.1, h1.2.2.2, by rw [← h1.2.2.2]; exact hm⟩, fun _ _ => Nat.zero_le _, vs, h2, h3, fun i t' v' a b => (h4 i t' v' a b).at_⟩
theorem u8_wf {n : Int} (h : (Lit.int .u8 n).wf = true) : 0 ≤ n ∧ n ≤ 255 := bounds_u8 h
/-- the elements of a slice, with the fuel of what reads them -/
theorem slice_trod {P : Program} {t e : TypeId} {sz : Nat} (ht : P.underlying t = some (.slice e)) (hc : P.cellsOf e = sz) (hs : 0 < sz) {H : Type} {enc : TypeId × Value → H} {w : World} {base : Nat} {spare : Nat → Bool} {held : Bool} {fuel : Nat} {cs : List Value} {x : DataW H × List MemPlace}
    (h : DataW.trod enc P w base spare held fuel t cs = some x) {R : List Value → Prop} (he : ∀ n cs y, n < fuel → DataW.trod enc P w base spare held n e cs = some y → cs.length = sz ∧ R cs) :
    ∃ A len cap, cs = [.slice A len cap] ∧ len ≤ maxLen ∧ ∀ i, i < len → ∃ vs, RowAt w w.heap.size A sz i vs ∧ R vs := by
  rcases DataW.trod_slice ht h with ⟨rfl, _⟩ | ⟨a, len, cap, elems, rest, n, hn, rfl, _, _, hl, hm, he1, hi, _⟩
  · exact ⟨none, 0, 0, rfl, Nat.zero_le _, fun i hi => by omega⟩
  · refine ⟨some a, len, cap, rfl, Nat.le_trans hl hm, fun i hil => ?_⟩
    have get : ∀ i, i < len → ∃ cs' y, w.cells? base (a.add (i * sz)) sz = some cs' ∧ DataW.trod enc P w base spare held n e cs' = some y := fun i hil => by
      have h1 := hi i hil
      rw [List.getElem?_eq_getElem (by omega), hc] at h1
      obtain ⟨cs', h2, h3⟩ := Option.bind_eq_some_iff.1 h1
      exact ⟨cs', _, h2, h3⟩
    obtain ⟨cs', y, hcs, ht'⟩ := get i hil
    obtain ⟨hlen, hR⟩ := he n cs' y (by omega) ht'
    obtain ⟨_, hcl, hat⟩ := World.cells?_some hcs
    have h0 := hat 0 hs
    have h00 : cs'[0]? = some (cs'[0]'(by omega)) := List.getElem?_eq_getElem _
    rw [h00, add_add'] at h0
    have hcell : ∀ j v, cs'[j]? = some v → w.cell? (a.add (i * sz + j)) = some v := fun j v hv => by
      have hj : j < cs'.length := (List.getElem?_eq_some_iff.1 hv).1
      have := hat j (by omega)
      rw [add_add'] at this
      rw [this, hv]
    refine ⟨cs', ?_, hR⟩
    obtain ⟨b, off, spot⟩ := a
    have hsp : spot = none := by
      by_cases hz : i * sz + 0 = 0
      · have := World.cell?_spot h0
        simpa [Addr.add, hz] using this
      · obtain ⟨cs0, y0, hcs0, ht0⟩ := get 0 (by omega)
        obtain ⟨hlen0, _⟩ := he n cs0 y0 (by omega) ht0
        obtain ⟨_, hcl0, hat0⟩ := World.cells?_some hcs0
        have hz0 := hat0 0 hs
        have h00' : cs0[0]? = some (cs0[0]'(by omega)) := List.getElem?_eq_getElem _
        rw [h00', add_add'] at hz0
        have := World.cell?_spot hz0
        simpa [Addr.add] using this
    subst hsp
    refine ⟨b, off, rfl, ?_, fun j v hv => ?_⟩
    · have := cell_lt h0
      rwa [block_of_add] at this
    · have := hcell j v hv
      unfold Addr.add at this
      split at this
      · rename_i hz
        have e1 : i * sz = 0 := by omega
        have e2 : j = 0 := by omega
        simpa [e1, e2] using this
      · simpa [Nat.add_assoc] using this
set_option maxRecDepth 100000 in
/-- what reads as a datum is a tree -/
theorem tree_trod {H : Type} (enc : TypeId × Value → H) (w : World) (base : Nat) (spare : Nat → Bool) (held : Bool) : ∀ (fuel : Nat) (cs : List Value) (x : DataW H × List MemPlace), DataW.trod enc Tryd.prog w base spare held fuel 60 cs = some x → ∃ (t : Tree) (v : TV), cs = v.enc ∧ TreeIn w fuel t v := by
  intro fuel
  induction fuel using Nat.strongRecOn with
  | ind fuel ih =>
    intro cs x h
    have hl := (opens_len Tryd.underlying60 h).trans (show Tryd.prog.cellsOf 60 = 4 by kernel_rfl)
    obtain ⟨_, a0, h0, b0⟩ := opens_field Tryd.underlying60 h (j := 0) rfl o_int
    obtain ⟨_, a1, h1, b1⟩ := opens_field Tryd.underlying60 h (j := 1) rfl o_int
    obtain ⟨_, a2, h2, b2⟩ := opens_field Tryd.underlying60 h (j := 2) rfl (opens_int Tryd.underlying5 (by kernel_rfl))
    have e0 := take1_at h0
    have e1 := take1_at h1
    have e2 := take1_at h2
    have b2' := bounds_u8 b2
    obtain ⟨xs, n, hn, _, hlen, hxs, hg⟩ := DataW.trod_struct Tryd.underlying60 h
    have h3 := hg 3 { name := "Parts", type := 58, offset := 3, embedded := false, tag := "", pkgPath := "", byteOffset := 24 } rfl
    dsimp only at h3
    have hj : 3 < xs.length := by rw [hxs]; decide
    rw [List.getElem?_eq_getElem hj] at h3
    have hc3 : Tryd.prog.cellsOf 58 = 1 := by kernel_rfl
    rw [hc3] at h3
    obtain ⟨A, len, cap, h4, h5, h6⟩ := slice_trod Tryd.underlying58 (sz := 4) (by kernel_rfl) (by omega) h3 (R := fun cs => ∃ (t : Tree) (v : TV), cs = v.enc ∧ TreeIn w n t v) (fun m cs' y hm hy => by
      obtain ⟨t, v, g1, g2⟩ := ih m (by omega) cs' y hy
      refine ⟨by rw [g1]; rfl, t, v, g1, ?_⟩
      have key : ∀ {f f' : Nat} {t : Tree} {v : TV}, f ≤ f' → TreeIn w f t v → TreeIn w f' t v := by
        intro f
        induction f with
        | zero => intro f' t v _ h; exact h.elim
        | succ f ihf =>
          intro f' t v hl h
          obtain ⟨f', rfl⟩ : ∃ g, f' = g + 1 := ⟨f' - 1, by omega⟩
          obtain ⟨k1, k2, k3, vs, k4, k5, k6⟩ := h
          exact ⟨k1, k2, k3, vs, k4, k5, fun i t' v' a b => ihf (by omega) (k6 i t' v' a b)⟩
      exact key (by omega) g2)
    have e3 := take1_at h4
    obtain ⟨ps, p1, p2⟩ := list_of (fun i (x : Tree × TV) => RowAt w w.heap.size A 4 i x.2.enc ∧ TreeIn w n x.1 x.2) len fun i hi => by
      obtain ⟨vs, q1, t, v, rfl, q2⟩ := h6 i hi
      exact ⟨(t, v), q1, q2⟩
    subst hn
    refine ⟨.node a0 a1 a2 (ps.map (·.1)), ⟨a0, a1, a2, A, len, cap⟩, ?_, ⟨rfl, rfl, rfl, by simp [Tree.ts, p1]⟩, ⟨b0, b1, b2'⟩, h5, ps.map (·.2), by simp [Tree.ts], ?_, ?_⟩
    · match cs, hl with
      | [c0, c1, c2, c3], _ => simp at e0 e1 e2 e3; subst e0 e1 e2 e3; rfl
    · intro i v hv
      rw [List.getElem?_map] at hv
      obtain ⟨y, hy, rfl⟩ := Option.map_eq_some_iff.1 hv
      exact (p2 i y hy).1
    · intro i t' v' g1 g2
      simp only [Tree.ts] at g1
      rw [List.getElem?_map] at g1 g2
      obtain ⟨y, hy, rfl⟩ := Option.map_eq_some_iff.1 g1
      rw [hy] at g2
      injection g2 with g2
      subst g2
      exact (p2 i y hy).2
theorem o_tree : Opens Tryd.prog 60 4 (fun w cs => ∃ (f : Nat) (t : Tree) (v : TV), cs = v.enc ∧ TreeIn w f t v) :=
  ⟨by kernel_rfl, fun H enc w base spare held fuel cs x h => by
    obtain ⟨t, v, h1, h2⟩ := tree_trod enc w base spare held fuel cs x h
    exact ⟨by rw [h1]; rfl, fuel, t, v, h1, h2⟩⟩
end Go.Proofs.YtecaaimaeaocbaaDoor
