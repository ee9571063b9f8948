/- Parts of the proofs of this seat: RefDispP. Each part says what it proves; no condition beyond those stated there. -/
import Derived.Test.YtcpnfcnobnjhdaaB17
import Derived.Test.YtcpnfcnobnjhdaaB29

/- The reference's Dispatch: its memory; when a job is ready. -/
namespace Go.Proofs.Ytcpnfcnobnjhdaa
open Go.RowKit
theorem et_i : ElemT Try.prog 22 3 1 := elemT_mk Try.underlying22 (z := .int .i64 0) (bytes := 8) (by kernel_rfl) rfl (by omega) (by omega)
/-- append of one element that lies in a block known whole: only the list's own block turns -/
theorem wpList_app_lies {α : Type} {P : Program} {ops : Array Oper} {rest : List Oper} {o : Oper} {a : Act} {Q : Exit → Act → World → Prop} {w : World} {base : Nat} {e : TypeId} {sz : Nat} {f : α → List Value} {v : Value} {l : List α} {cs : Array Value} {y : α} {nb : Nat} (s x : Operand) {t : TypeId} (hgd : o.guard = none)
    (ho : o.op = .call { callee := .builtin .append, args := #[s, x], argTypes := #[t, t] }) (he : ElemT P t e sz) (hown : Own w base e sz f v l) (hs : a.eval s = v) (hx : a.eval x = .slice (some ⟨nb, 0, none⟩) 1 1)
    (hbl : Blk w nb e cs) (hcs : cs.toList = f y) (hsz : (f y).length = sz) (h1 : (f y).all Value.oneCell' = true) (hlen : l.length ≤ 1000000000) (hbase : base ≤ w.heap.size)
    (h : ∀ g cap w', Own w' base e sz f (.slice (some ⟨g, 0, none⟩) (l.length + 1) cap) (l ++ [y]) → w.grownBy w' v.ownBlock → (v.ownBlock = some g ∨ g = w.heap.size) → g < w'.heap.size → wpList P ops Q rest (a.put o.dst (.slice (some ⟨g, 0, none⟩) (l.length + 1) cap)) w') : wpList P ops Q (o :: rest) a w := by
  obtain ⟨i, z, bytes, ht, hi, hz, hsize, hby, hzs, h0, hb⟩ := he
  refine wpList_append_lies w hgd s x t ho base e i z sz bytes ht hi hz hsize hby hzs h0 v l.length (l.flatMap f) hs hown ⟨nb, 0, none⟩ 1 1 (f y) hx (by omega) ?_ ?_ (by omega) (by unfold maxLen; omega) ?_ hbase w.heap.size rfl ?_
  · intro j u hu
    rw [← hcs] at hu
    exact World.news_of_block hbl j u hu
  · exact fun u hu => List.all_eq_true.1 h1 u hu
  · calc (l.length + 1) * bytes ≤ 1000000001 * 4096 := Nat.mul_le_mul (by omega) hb
      _ ≤ _ := by omega
  · intro g cap w' h2 h3 h4 h5
    refine h g cap w' ?_ h3 h4 h5
    show w'.ownsRow _ _ _ _ _ _
    rw [List.length_append, List.flatMap_append, List.flatMap_cons, List.flatMap_nil, List.append_nil]
    exact h2
/-- rows that the call owns, each its own block, in a slice -/
structure Grid (B : Nat) (w : World) (bp : Nat) (vs : List Value) (pl : List (List Int)) : Prop where
  blk : Blk w bp 22 vs.toArray
  len : vs.length = pl.length
  own : ∀ (i : Nat) v l, vs[i]? = some v → pl[i]? = some l → Own w B 3 1 intEnc v l
  ap : ∀ (i j : Nat) v v', i ≠ j → vs[i]? = some v → vs[j]? = some v' → ∀ g, v.ownBlock = some g → v'.ownBlock ≠ some g
  lo : bp < B
section
variable {B : Nat} {w w' : World} {bp : Nat} {vs : List Value} {pl : List (List Int)}
theorem Grid.below (h : Grid B w bp vs pl) (hb : Below w.heap.size w w') : Grid B w' bp vs pl :=
  ⟨h.blk.below hb h.blk.lt, h.len, fun i v l h1 h2 => (h.own i v l h1 h2).below hb, h.ap, h.lo⟩
theorem own_chg {α : Type} {w w' : World} {base : Nat} {e : TypeId} {sz : Nat} {f : α → List Value} {v : Value} {l : List α} {g : Nat} (h : Own w base e sz f v l) (hc : Chg (fun k => k = g) w w') (hg : g < base) : Own w' base e sz f v l :=
  World.ownsRow.kept (row := some g) h ⟨hc.os, hc.tape, hc.output, hc.size, fun k hk hne => hc.block k hk fun he => hne (by rw [he])⟩ (by
    cases hv : v.ownBlock with
    | none => exact .inl rfl
    | some q =>
      right
      have := World.ownsRow.lt h q hv
      intro he; injection he with he; omega)
theorem Grid.chg (h : Grid B w bp vs pl) {g : Nat} (hc : Chg (fun k => k = g) w w') (hg : g < B) (hne : bp ≠ g) : Grid B w' bp vs pl :=
  ⟨h.blk.chg1 hc hne, h.len, fun i v l h1 h2 => own_chg (h.own i v l h1 h2) hc hg, h.ap, h.lo⟩
theorem Grid.plan_ (h : Grid B w bp vs pl) : Plan w w.heap.size (some ⟨bp, 0, none⟩) pl := fun i l hl => by
  have hi : i < vs.length := by rw [h.len]; exact (List.getElem?_eq_some_iff.1 hl).1
  have hv : vs[i]? = some vs[i] := List.getElem?_eq_getElem hi
  obtain ⟨A, c, h1, h2⟩ := (h.own i _ l hv hl).form fun _ => rfl
  refine ⟨bp, 0, A, c, rfl, h.blk.lt, ?_, h2⟩
  rw [Nat.zero_add]
  exact h.blk.cell_ i (by rw [← h1]; simp)
theorem Grid.row (h : Grid B w bp vs pl) {i : Nat} {l : List Int} (hl : pl[i]? = some l) : ∃ v, vs[i]? = some v ∧ Own w B 3 1 intEnc v l ∧ w.cell? ⟨bp, i, none⟩ = some v := by
  have hi : i < vs.length := by rw [h.len]; exact (List.getElem?_eq_some_iff.1 hl).1
  have hv : vs[i]? = some vs[i] := List.getElem?_eq_getElem hi
  exact ⟨vs[i], hv, h.own i _ l hv hl, h.blk.cell_ i (by simp)⟩
/-- append to a row, and back -/
theorem Grid.app (h : Grid B w bp vs pl) {i : Nat} {v v' : Value} {l : List Int} {t : Int} {g : Nat} {w'' : World} (hv : vs[i]? = some v) (hl : pl[i]? = some l) (hown : Own w' B 3 1 intEnc v' (l ++ [t])) (hg : w.grownBy w' v.ownBlock) (hvg : v'.ownBlock = some g)
    (hf : v.ownBlock = some g ∨ w.heap.size ≤ g) (hb : Blk w'' bp 22 (vs.set i v').toArray) (hc : Chg (fun k => k = bp) w' w'') : Grid B w'' bp (vs.set i v') (pl.modify i fun l => l ++ [t]) := by
  have hil := (List.getElem?_eq_some_iff.1 hv).1
  refine ⟨hb, by simpa using h.len, fun j u m h1 h2 => ?_, fun j k u u' hne h1 h2 q hq => ?_, h.lo⟩
  · rw [List.getElem?_set] at h1
    rw [modify_get] at h2
    by_cases hij : i = j
    · subst hij
      rw [if_pos rfl, if_pos hil] at h1
      rw [if_pos rfl, hl] at h2
      injection h1 with h1
      injection h2 with h2
      subst h1 h2
      exact own_chg hown hc h.lo
    · rw [if_neg hij] at h1 h2
      refine own_chg ?_ hc h.lo
      refine World.ownsRow.kept (h.own j u m h1 h2) hg ?_
      cases hu : u.ownBlock with
      | none => exact .inl rfl
      | some q =>
        right
        intro he
        exact h.ap i j v u hij hv h1 q he.symm hu
  · rw [List.getElem?_set] at h1 h2
    have old : ∀ (j : Nat) u, j ≠ i → vs[j]? = some u → u.ownBlock ≠ some g := fun j u hj hu he => by
      rcases hf with hf | hf
      · exact h.ap i j v u (Ne.symm hj) hv hu g hf he
      · have hm : j < pl.length := by rw [← h.len]; exact (List.getElem?_eq_some_iff.1 hu).1
        have := (World.ownsRow.lt (h.own j u _ hu (List.getElem?_eq_getElem hm)) g he).2
        omega
    by_cases hij : i = j
    · subst hij
      rw [if_pos rfl, if_pos hil] at h1
      injection h1 with h1
      subst h1
      rw [hvg] at hq
      injection hq with hq
      subst hq
      rw [if_neg hne] at h2
      exact old k u' (Ne.symm hne) h2
    · rw [if_neg hij] at h1
      by_cases hik : i = k
      · subst hik
        rw [if_pos rfl, if_pos hil] at h2
        injection h2 with h2
        subst h2
        rw [hvg]
        intro he
        injection he with he
        subst he
        exact old j u (Ne.symm hij) h1 hq
      · rw [if_neg hik] at h2
        exact h.ap j k u u' hne h1 h2 q hq
end
set_option maxRecDepth 100000 in
theorem readyL_any (s : Sh) (A : Option Addr) (c : Nat) (pl : List (List Int)) (j : Nat) (st : List Step) (l : List Int) (w : World) (hS : ShAt w w.heap.size s) (hv : VShop s.p) (hP : Plan w w.heap.size A pl)
    (hj : s.p.jobs[j]? = some st) (hl : pl[j]? = some l) (hle : l.length ≤ st.length) (hb : ∀ (i : Nat) t, l[i]? = some t → 0 ≤ t ∧ t ≤ 1000000000) :
    Calls Try.prog 63 #[.agg #[.int .i64 s.p.op, .int .i64 s.p.cl, .slice s.aH s.p.hol.length s.cH, .int .i64 s.p.mach, .slice s.aS s.p.setup.length s.cS, .slice s.aJ s.p.jobs.length s.cJ], .slice A pl.length c, .agg #[.int .i64 j, .int .i64 l.length]] w fun e w' => e = .returned (.int .i64 (rdy st l)) ∧ Below w.heap.size w w' := by
  have hs8 := (hv.steps j st hj).1
  rcases Nat.eq_zero_or_pos l.length with h0 | h0
  · have h1 : rdy st l = 0 := by unfold rdy; rw [h0]
    rw [h1, h0]
    exact ready0_any s A c pl.length j w
  · obtain ⟨k, hk⟩ : ∃ k, l.length = k + 1 := ⟨l.length - 1, by omega⟩
    obtain ⟨t, e1⟩ : ∃ t, l[k]? = some t := ⟨_, List.getElem?_eq_getElem (by omega)⟩
    obtain ⟨x, e2⟩ : ∃ x, st[k]? = some x := ⟨_, List.getElem?_eq_getElem (by omega)⟩
    obtain ⟨_, _, x1, x2, _, _, x3, x4⟩ := (hv.steps j st hj).2 k _ e2
    have v0 := hv.op0
    have v1 := hv.cl
    have hbt := hb k _ e1
    have h1 : rdy st l = t + x.mi + x.d := by
      unfold rdy; rw [hk]
      simp only [List.getD_eq_getElem?_getD, e1, e2, Option.getD_some]
    rw [h1]
    exact ready1k_any s A c pl j k st x l t (l.length : Int) (by omega) w hS hP hj e2 hl e1 (by omega) ⟨by omega, by omega⟩ ⟨by omega, by omega⟩ ⟨x3, by omega⟩
theorem readyL_n (s : Sh) (A : Option Addr) (n c : Nat) (pl : List (List Int)) (j : Nat) (st : List Step) (l : List Int) (w : World) (hn : pl.length = n) (hS : ShAt w w.heap.size s) (hv : VShop s.p) (hP : Plan w w.heap.size A pl)
    (hj : s.p.jobs[j]? = some st) (hl : pl[j]? = some l) (hle : l.length ≤ st.length) (hb : ∀ (i : Nat) t, l[i]? = some t → 0 ≤ t ∧ t ≤ 1000000000) :
    Calls Try.prog 63 #[.agg #[.int .i64 s.p.op, .int .i64 s.p.cl, .slice s.aH s.p.hol.length s.cH, .int .i64 s.p.mach, .slice s.aS s.p.setup.length s.cS, .slice s.aJ s.p.jobs.length s.cJ], .slice A n c, .agg #[.int .i64 j, .int .i64 l.length]] w fun e w' => e = .returned (.int .i64 (rdy st l)) ∧ Below w.heap.size w w' := by
  subst hn; exact readyL_any s A c pl j st l w hS hv hP hj hl hle hb
theorem rep_set {α : Type} (m q : Nat) (a b : α) : (List.replicate m a ++ List.replicate (q + 1) b).set m a = List.replicate (m + 1) a ++ List.replicate q b := by
  rw [List.set_append_right _ _ (by simp), List.replicate_succ' (n := m)]
  simp [List.replicate_succ (n := q)]
theorem Grid.start {w : World} {bp n : Nat} (h : Blk w bp 22 (Array.replicate n (Value.slice none 0 0))) : Grid w.heap.size w bp (List.replicate n (.slice none 0 0)) (List.replicate n []) := by
  refine ⟨by simpa using h, by simp, fun i v l h1 h2 => ?_, fun i j v v' _ h1 _ g hg => ?_, h.lt⟩
  · simp [List.getElem?_replicate] at h1 h2
    rw [← h1.2, h2.2]
    exact Own.nil_
  · simp [List.getElem?_replicate] at h1
    rw [← h1.2] at hg
    cases hg
theorem Blk.grownv {w w' : World} {b : Nat} {t : TypeId} {cs : Array Value} {v : Value} (h : Blk w b t cs) (hg : w.grownBy w' v.ownBlock) (hn : ∀ k, v.ownBlock = some k → b ≠ k) : Blk w' b t cs := h.grown hg fun he => hn b he.symm rfl
theorem grownv_below {B : Nat} {w w' : World} {v : Value} (hg : w.grownBy w' v.ownBlock) (hB : B ≤ w.heap.size) (hn : ∀ k, v.ownBlock = some k → B ≤ k) : Below B w w' :=
  ⟨hg.os, hg.tape, hg.output, hg.size, fun k hk => hg.block k (by omega) fun he => by have := hn k he.symm; omega⟩
end Go.Proofs.Ytcpnfcnobnjhdaa
