/- Parts of the proofs of this seat: Maps, StoreP, St, SP, Assoc, Inv, Inv2, Sim, Scrap. Each part says what it proves; no condition beyond those stated there. -/
import Derived.MapKept
import Derived.Maps.RangeRun
import Derived.Maps.Own
import Derived.Test.YtnejacogflkmmaaM1

/- Maps keyed by ints, whatever their elements: what a block holds, told as a list of pairs in the order of their insertion; look-up, store, delete, len, range. -/
namespace Go.Proofs.Ytnejacogflkmmaa
open Go.RowKit Go.MapKept
open Go.ChangeMaps (setBlock)

def keyInt : Value → Int
  | .int _ n => n
  | _ => 0
theorem key_of {v : Value} (h : IsKey (.int .i64) v) : v = .int .i64 (keyInt v) := by
  cases v <;> simp [IsKey] at h
  rw [h]; rfl
def prOf (e : MapEntry) : Int × Value := (keyInt e.key, e.val)

/-- Block r is a map keyed by ints: just the pairs M, in the order of their insertion. -/
def MapOf (w : World) (r : Nat) (M : List (Int × Value)) : Prop :=
  ∃ es clock, w.heap[r]? = some (.map es clock) ∧ Stamped es clock ∧ (∀ x ∈ es.toList, IsKey (.int .i64) x.key) ∧ es.toList.map prOf = M

def look {V : Type} (M : List (Int × V)) (k : Int) : Option V := (M.find? fun p => p.1 == k).map (·.2)
def put {V : Type} (M : List (Int × V)) (k : Int) (v : V) : List (Int × V) := if (look M k).isSome then M.map fun p => if p.1 == k then (k, v) else p else M ++ [(k, v)]
def del {V : Type} (M : List (Int × V)) (k : Int) : List (Int × V) := M.filter fun p => p.1 != k

theorem look_none {V : Type} {M : List (Int × V)} {k : Int} (h : ∀ p ∈ M, p.1 ≠ k) : look M k = none := by
  unfold look
  rw [List.find?_eq_none.2 (fun p hp => by simpa using h p hp)]; rfl
theorem look_mem {V : Type} {M : List (Int × V)} {k : Int} {v : V} (hn : (M.map (·.1)).Nodup) (h : (k, v) ∈ M) : look M k = some v := by
  unfold look
  induction M with
  | nil => cases h
  | cons p M ih =>
    simp only [List.map_cons, List.nodup_cons] at hn
    rw [List.find?_cons]
    by_cases hp : p.1 = k
    · simp only [hp, beq_self_eq_true, Option.map_some]
      rcases List.mem_cons.1 h with rfl | h
      · rfl
      · exact absurd (List.mem_map.2 ⟨_, h, rfl⟩) (hp ▸ hn.1)
    · simp only [beq_eq_false_iff_ne.2 hp]
      rcases List.mem_cons.1 h with rfl | h
      · exact absurd rfl hp
      · exact ih hn.2 h
theorem mem_of_look {V : Type} {M : List (Int × V)} {k : Int} {v : V} (h : look M k = some v) : (k, v) ∈ M := by
  unfold look at h
  cases hf : M.find? (fun p => p.1 == k) with
  | none => rw [hf] at h; cases h
  | some p =>
    rw [hf] at h
    have h1 := List.find?_some hf
    have h2 := List.mem_of_find?_eq_some hf
    simp at h h1
    rw [← h, ← h1]; exact h2

section
variable {P : Program} {w w' : World} {r : Nat} {M : List (Int × Value)}
theorem MapOf.nodup (h : MapOf w r M) : (M.map (·.1)).Nodup := by
  obtain ⟨es, clock, _, hs, hk, rfl⟩ := h
  rw [List.map_map]
  have h3 := hs.2.2
  rw [List.Nodup, List.pairwise_map] at h3 ⊢
  refine h3.imp_of_mem (fun {a b} ha hb hne he => hne ?_)
  have he' : keyInt a.key = keyInt b.key := he
  rw [key_of (hk a ha), key_of (hk b hb), he']
theorem MapOf.lt (h : MapOf w r M) : r < w.heap.size := by
  obtain ⟨es, clock, hb, _⟩ := h
  exact (Array.getElem?_eq_some_iff.1 hb).1
theorem MapOf.same (h : MapOf w r M) (hk : w'.heap[r]? = w.heap[r]?) : MapOf w' r M := by
  obtain ⟨es, clock, hb, rest⟩ := h
  exact ⟨es, clock, hk.trans hb, rest⟩
theorem MapOf.alloc (h : MapOf w r M) (o : Obj) : MapOf (w.alloc o) r M := h.same (Below.heap_alloc w o r h.lt)
theorem MapOf.drew (h : MapOf w r M) : MapOf w.drew r M := h
theorem MapOf.below {B : Nat} (h : MapOf w r M) (hb : Below B w w') (hr : r < B) : MapOf w' r M := h.same (hb.block r hr)
theorem MapOf.grown {row : Option Nat} (h : MapOf w r M) (hg : w.grownBy w' row) (hr : some r ≠ row) : MapOf w' r M := h.same (hg.block r h.lt hr)
theorem MapOf.setCell (h : MapOf w r M) (a : Addr) (u : Value) (hr : r ≠ a.block) : MapOf (w.setCell a u) r M := h.same (Below.heap_setCell w a u r hr)
theorem MapOf.new (w : World) : MapOf (w.alloc (.map #[] 0)) w.heap.size [] := ⟨#[], 0, heap_alloc_new w _, stamped_empty 0, by simp, rfl⟩
theorem MapOf.blk_ne {g : Nat} {t : TypeId} {cs : Array Value} (h : MapOf w r M) (hb : Blk w g t cs) : r ≠ g := by
  rintro rfl
  obtain ⟨es, clock, h1, _⟩ := h
  unfold Blk at hb
  rw [hb] at h1
  cases h1

theorem MapOf.find (h : MapOf w r M) (n : Int) : ∃ es clock, w.heap[r]? = some (.map es clock) ∧ Stamped es clock ∧ (∀ x ∈ es.toList, IsKey (.int .i64) x.key) ∧ es.toList.map prOf = M ∧
    ((Instr.findNow (.int .i64) (.int .i64 n) es.toList 0 = some none ∧ look M n = none ∧ ∀ x ∈ es.toList, x.key ≠ .int .i64 n) ∨
     ∃ j e, Instr.findNow (.int .i64) (.int .i64 n) es.toList 0 = some (some (j, e.val)) ∧ es.toList[j]? = some e ∧ e.key = .int .i64 n ∧ look M n = some e.val) := by
  have hn := h.nodup
  obtain ⟨es, clock, hb, hs, hk, rfl⟩ := h
  refine ⟨es, clock, hb, hs, hk, rfl, ?_⟩
  rcases findNow_spec (d := .int .i64) (k := .int .i64 n) (by simp [IsKey]) es.toList 0 hk with ⟨h1, h2⟩ | ⟨j, e, h1, h2, h3⟩
  · refine .inl ⟨h1, look_none fun p hp hpe => ?_, h2⟩
    obtain ⟨x, hx, rfl⟩ := List.mem_map.1 hp
    refine h2 x hx ?_
    have : keyInt x.key = n := hpe
    rw [key_of (hk x hx), this]
  · refine .inr ⟨j, e, by simpa using h1, h2, h3, look_mem hn ?_⟩
    refine List.mem_map.2 ⟨e, List.mem_of_getElem? h2, ?_⟩
    unfold prOf; rw [h3]; rfl

theorem MapOf.look_no {t k e : TypeId} {z : Value} {n : Int} (h : MapOf w r M) (ht : P.underlying t = some (.map k e)) (hk : P.underlying k = some (.int .i64)) (hz : ∀ w, (zeroValue e).run P w = .ok z w) (hl : look M n = none) (c : Bool) :
    (Instr.lookup t (.map (some r)) (.int .i64 n) c).run P w = .ok (if c then .tuple #[z, .bool false] else z) w := by
  obtain ⟨es, clock, hb, hs, hks, hM, ⟨h1, h2, h3⟩ | ⟨j, e0, h1, h2, h3, h4⟩⟩ := h.find n
  · simp [Instr.lookup, run_underlying ht, MapKept.run_getObj_map hb, run_checkKey (k := .int .i64 n) hk (by simp [IsKey]), run_findKey hk h1, hz, Result.andThen]
  · rw [hl] at h4; cases h4
theorem MapOf.look_yes {t k e : TypeId} {v : Value} {n : Int} (h : MapOf w r M) (ht : P.underlying t = some (.map k e)) (hk : P.underlying k = some (.int .i64)) (hl : look M n = some v) (c : Bool) :
    (Instr.lookup t (.map (some r)) (.int .i64 n) c).run P w = .ok (if c then .tuple #[v, .bool true] else v) w := by
  obtain ⟨es, clock, hb, hs, hks, hM, ⟨h1, h2, h3⟩ | ⟨j, e0, h1, h2, h3, h4⟩⟩ := h.find n
  · rw [hl] at h2; cases h2
  · rw [hl] at h4
    injection h4 with h4
    simp [Instr.lookup, run_underlying ht, MapKept.run_getObj_map hb, run_checkKey (k := .int .i64 n) hk (by simp [IsKey]), run_findKey hk h1, Result.andThen, h4]

theorem map_set_put {V : Type} {M : List (Int × V)} {j : Nat} {n : Int} {v v0 : V} (hn : (M.map (·.1)).Nodup) (hj : M[j]? = some (n, v0)) : M.set j (n, v) = put M n v := by
  have hl : look M n = some v0 := look_mem hn (List.mem_of_getElem? hj)
  unfold put
  rw [hl]
  simp only [Option.isSome_some, if_true]
  apply List.ext_getElem?
  intro i
  rw [List.getElem?_set, List.getElem?_map]
  by_cases hij : j = i
  · subst hij
    have hlt := (List.getElem?_eq_some_iff.1 hj).1
    have hm : M[j] = (n, v0) := (List.getElem?_eq_some_iff.1 hj).2
    simp [hlt, hm]
  · simp only [hij, if_false]
    cases hi : M[i]? with
    | none => rfl
    | some p =>
      have hne : p.1 ≠ n := by
        intro he
        have h1 : (M.map (·.1))[i]? = some n := by rw [List.getElem?_map, hi]; simp [he]
        have h2 : (M.map (·.1))[j]? = some n := by rw [List.getElem?_map, hj]; rfl
        have hlt := (List.getElem?_eq_some_iff.1 h2).1
        exact hij ((List.getElem?_inj hlt hn).1 (h2.trans h1.symm))
      simp [hne]

theorem MapOf.run_put {t k e : TypeId} {n : Int} (h : MapOf w r M) (ht : P.underlying t = some (.map k e)) (hk : P.underlying k = some (.int .i64)) (v : Value) :
    ∃ w', (Instr.mapUpdate t (.map (some r)) (.int .i64 n) v).run P w = .ok () w' ∧ MapOf w' r (put M n v) ∧ w.grownBy w' (some r) := by
  have hn := h.nodup
  obtain ⟨es, clock, hb, hs, hks, rfl, ⟨h1, h2, h3⟩ | ⟨j, e0, h1, h2, h3, h4⟩⟩ := h.find n
  · refine ⟨setBlock w r (.map (es.push ⟨.int .i64 n, v, clock⟩) (clock + 1)), ?_, ⟨_, _, (heap_set hb).1, stamped_push hs h3, ?_, ?_⟩, ⟨rfl, rfl, rfl, by simp [setBlock], fun i _ hi => (heap_set hb).2 i (fun e => hi (by rw [e]))⟩⟩
    · simp [Instr.mapUpdate, run_underlying ht, MapKept.run_getObj_map hb, run_checkKey (k := .int .i64 n) hk (by simp [IsKey]), run_findKey hk h1, MapKept.run_setObj_map _ hb, Result.andThen, setBlock]
    · intro x hx
      simp only [Array.toList_push, List.mem_append, List.mem_singleton] at hx
      rcases hx with hx | rfl
      · exact hks x hx
      · simp [IsKey]
    · unfold put
      rw [h2]
      simp [prOf, keyInt]
  · have hj : es[j]? = some e0 := by simpa using h2
    have hlist : (es.modify j (fun e' => { e' with key := .int .i64 n, val := v })).toList = es.toList.set j { e0 with key := .int .i64 n, val := v } := by rw [Array.toList_modify, Go.ChangeMaps.modify_eq_set _ _ _ _ h2]
    have hkf : ∀ e', es[j]? = some e' → ({ e' with key := .int .i64 n, val := v } : MapEntry).key = e'.key := fun e' he' => by rw [hj] at he'; cases he'; exact h3.symm
    refine ⟨setBlock w r (.map (es.modify j (fun e' => { e' with key := .int .i64 n, val := v })) clock), ?_, ⟨_, _, (heap_set hb).1, stamped_modify hs _ _ (fun _ _ => rfl) (fun e' _ he' => hkf e' he'), isKey_modify hks _ _ hkf, ?_⟩, ⟨rfl, rfl, rfl, by simp [setBlock], fun i _ hi => (heap_set hb).2 i (fun e => hi (by rw [e]))⟩⟩
    · simp [Instr.mapUpdate, run_underlying ht, MapKept.run_getObj_map hb, run_checkKey (k := .int .i64 n) hk (by simp [IsKey]), run_findKey hk h1, hj, h3, run_keyThatStays (d := .int .i64) (k := .int .i64 n) (by simp [IsKey]), MapKept.run_setObj_map _ hb, Result.andThen, setBlock]
    · rw [hlist, List.map_set]
      have : (es.toList.map prOf)[j]? = some (n, e0.val) := by rw [List.getElem?_map, h2]; simp [prOf, h3, keyInt]
      exact map_set_put hn this

theorem MapOf.run_del {t k e ty : TypeId} {n : Int} (h : MapOf w r M) (ht : P.underlying t = some (.map k e)) (hk : P.underlying k = some (.int .i64)) :
    ∃ w', (Builtin.delete_ #[t, k] ty #[.map (some r), .int .i64 n]).run P w = .ok (.tuple #[]) w' ∧ MapOf w' r (del M n) ∧ w.grownBy w' (some r) := by
  have hn := h.nodup
  obtain ⟨es, clock, hb, hs, hks, rfl, ⟨h1, h2, h3⟩ | ⟨j, e0, h1, h2, h3, h4⟩⟩ := h.find n
  · refine ⟨setBlock w r (.map es clock), ?_, ⟨_, _, (heap_set hb).1, hs, hks, ?_⟩, ⟨rfl, rfl, rfl, by simp [setBlock], fun i _ hi => (heap_set hb).2 i (fun e => hi (by rw [e]))⟩⟩
    · simp [Builtin.delete_, run_underlying ht, MapKept.run_getObj_map hb, run_checkKey (k := .int .i64 n) hk (by simp [IsKey]), run_findKey hk h1, MapKept.run_setObj_map _ hb, Result.andThen, setBlock]
    · unfold del
      refine (List.filter_eq_self.2 fun p hp => ?_).symm
      obtain ⟨x, hx, rfl⟩ := List.mem_map.1 hp
      simp only [bne_iff_ne, prOf]
      intro he
      exact h3 x hx (by rw [key_of (hks x hx), he])
  · have hjl : j < es.toList.length := (List.getElem?_eq_some_iff.1 h2).1
    have hjs : j < es.size := by simpa using hjl
    have hsub : (es.eraseIdxIfInBounds j).toList = es.toList.eraseIdx j := by
      unfold Array.eraseIdxIfInBounds
      rw [dif_pos hjs]
      simp
    refine ⟨setBlock w r (.map (es.eraseIdxIfInBounds j) clock), ?_, ⟨_, _, (heap_set hb).1, stamped_erase hs j, ?_, ?_⟩, ⟨rfl, rfl, rfl, by simp [setBlock], fun i _ hi => (heap_set hb).2 i (fun e => hi (by rw [e]))⟩⟩
    · simp [Builtin.delete_, run_underlying ht, MapKept.run_getObj_map hb, run_checkKey (k := .int .i64 n) hk (by simp [IsKey]), run_findKey hk h1, MapKept.run_setObj_map _ hb, Result.andThen, setBlock]
    · intro x hx
      rw [hsub] at hx
      exact hks x ((List.eraseIdx_sublist _ _).subset hx)
    · rw [hsub]
      unfold del
      have hj' : (es.toList.map prOf)[j]? = some (n, e0.val) := by rw [List.getElem?_map, h2]; simp [prOf, h3, keyInt]
      rw [Go.ChangeMaps.map_eraseIdx]
      rw [← Go.ChangeMaps.filter_eq_eraseIdx (fun p : Int × Value => p.1 == n) _ j (n, e0.val) hj' (by simp) ?_]
      · rfl
      · rw [List.Nodup, List.pairwise_map] at hn
        refine hn.imp fun {a b} hne hab => hne ?_
        simp at hab
        rw [hab.1, hab.2]

theorem MapOf.run_len {t k e ty : TypeId} (h : MapOf w r M) (ht : P.underlying t = some (.map k e)) : (Builtin.len_ #[t] ty #[.map (some r)]).run P w = .ok (.int .i64 M.length) w := by
  obtain ⟨es, clock, hb, hs, hks, rfl⟩ := h
  simp [Builtin.len_, run_underlying ht, MapKept.run_getObj_map hb, Result.andThen, goInt]
end
/-- Block 'it' is an iterator over the map in block r, which holds M; L is still to come. -/
def IterOf (w : World) (it r : Nat) (M L : List (Int × Value)) : Prop :=
  ∃ es clock seen last, w.heap[r]? = some (.map es clock) ∧ Stamped es clock ∧ (∀ x ∈ es.toList, IsKey (.int .i64) x.key) ∧ es.toList.map prOf = M ∧
    w.heap[it]? = some (.mapIter (some r) clock seen last) ∧ clock ≤ last ∧ (leftOf es seen).toList.map prOf = L
/-- how many are still to come -/
def leftN (w : World) (it : Nat) : Nat :=
  match w.heap[it]? with
  | some (.mapIter (some r) _ seen _) => match w.heap[r]? with
    | some (.map es _) => (leftOf es seen).size
    | _ => 0
  | _ => 0

section
variable {P : Program} {w w' : World} {it r : Nat} {M L : List (Int × Value)}
theorem IterOf.map_ (h : IterOf w it r M L) : MapOf w r M := by
  obtain ⟨es, clock, seen, last, h1, h2, h3, h4, _⟩ := h
  exact ⟨es, clock, h1, h2, h3, h4⟩
theorem IterOf.lt (h : IterOf w it r M L) : it < w.heap.size := by
  obtain ⟨es, clock, seen, last, _, _, _, _, h5, _⟩ := h
  exact (Array.getElem?_eq_some_iff.1 h5).1
theorem IterOf.left_eq (h : IterOf w it r M L) : leftN w it = L.length := by
  obtain ⟨es, clock, seen, last, h1, _, _, _, h5, _, rfl⟩ := h
  unfold leftN
  rw [h5]
  simp only [h1]
  simp
theorem IterOf.same (h : IterOf w it r M L) (h1 : w'.heap[r]? = w.heap[r]?) (h2 : w'.heap[it]? = w.heap[it]?) : IterOf w' it r M L := by
  obtain ⟨es, clock, seen, last, e1, e2, e3, e4, e5, e6⟩ := h
  exact ⟨es, clock, seen, last, h1.trans e1, e2, e3, e4, h2.trans e5, e6⟩
theorem IterOf.alloc (h : IterOf w it r M L) (o : Obj) : IterOf (w.alloc o) it r M L := h.same (Below.heap_alloc w o r h.map_.lt) (Below.heap_alloc w o it h.lt)
theorem IterOf.drew (h : IterOf w it r M L) : IterOf w.drew it r M L := h
theorem IterOf.setCell (h : IterOf w it r M L) (a : Addr) (u : Value) (h1 : r ≠ a.block) (h2 : it ≠ a.block) : IterOf (w.setCell a u) it r M L := h.same (Below.heap_setCell w a u r h1) (Below.heap_setCell w a u it h2)
theorem IterOf.below {B : Nat} (h : IterOf w it r M L) (hb : Below B w w') (h1 : r < B) (h2 : it < B) : IterOf w' it r M L := h.same (hb.block r h1) (hb.block it h2)
theorem IterOf.grown {row : Option Nat} (h : IterOf w it r M L) (hg : w.grownBy w' row) (h1 : some r ≠ row) (h2 : some it ≠ row) : IterOf w' it r M L := h.same (hg.block r h.map_.lt h1) (hg.block it h.lt h2)
theorem IterOf.blk_ne {g : Nat} {t : TypeId} {cs : Array Value} (h : IterOf w it r M L) (hb : Blk w g t cs) : it ≠ g := by
  rintro rfl
  obtain ⟨es, clock, seen, last, _, _, _, _, h5, _⟩ := h
  unfold Blk at hb
  rw [hb] at h5
  cases h5

theorem MapOf.run_range {t k e : TypeId} (h : MapOf w r M) (ht : P.underlying t = some (.map k e)) :
    ∃ o, (Instr.range t (.map (some r))).run P w = .ok (.pointer (some ⟨w.heap.size, 0, none⟩)) (w.alloc o) ∧ IterOf (w.alloc o) w.heap.size r M M := by
  have hlt := h.lt
  obtain ⟨es, clock, hb, hs, hks, rfl⟩ := h
  refine ⟨.mapIter (some r) clock #[] clock, ?_, es, clock, #[], clock, (Below.heap_alloc w _ r hlt).trans hb, hs, hks, rfl, heap_alloc_new w _, Nat.le_refl _, ?_⟩
  · simp [Instr.range, run_underlying ht, MapKept.run_getObj_map hb, Result.andThen, newObj, Sem.run]
  · simp only [leftOf, Array.toList_filter]
    rw [List.filter_eq_self.2 (fun _ _ => by simp)]

theorem IterOf.run_next {ty : TypeId} (h : IterOf w it r M L) :
    (L = [] ∧ (Instr.next (.pointer (some ⟨it, 0, none⟩)) false ty).run P w = .ok (.tuple #[.bool false]) w) ∨
    ∃ k v L1 L2 w', L = L1 ++ (k, v) :: L2 ∧ (Instr.next (.pointer (some ⟨it, 0, none⟩)) false ty).run P w = .ok (.tuple #[.bool true, .int .i64 k, v]) w' ∧ IterOf w' it r M (L1 ++ L2) ∧ w.grownBy w' (some it) ∧
      (Instr.entry (.pointer (some ⟨it, 0, none⟩))).run P w' = .ok (.tuple #[.int .i64 k, v]) w' := by
  obtain ⟨es, clock, seen, last, h1, h2, h3, h4, h5, h6, rfl⟩ := h
  rcases run_next_at (P := P) w ty it r clock last seen es clock h5 h1 h2.1 h6 with ⟨h0, hr⟩ | ⟨e, he, w1, hw1, hr⟩
  · refine .inl ⟨?_, hr⟩
    rw [Array.eq_empty_of_size_eq_zero h0]; rfl
  · right
    have hes : e ∈ es.toList := by simp only [leftOf, Array.toList_filter, List.mem_filter] at he; exact he.1
    have hkey := key_of (h3 e hes)
    have hne : it ≠ r := by rintro rfl; rw [h1] at h5; cases h5
    have h51 : w1.heap[it]? = some (.mapIter (some r) clock seen last) := by rcases hw1 with rfl | rfl <;> exact h5
    have h11 : w1.heap[r]? = some (.map es clock) := by rcases hw1 with rfl | rfl <;> exact h1
    have hb1 := (heap_set (o' := Obj.mapIter (some r) clock (seen.push e.born) clock) h51)
    have hleft : ∃ L1 L2, (leftOf es seen).toList = L1 ++ e :: L2 ∧ (leftOf es (seen.push e.born)).toList = L1 ++ L2 := by
      obtain ⟨L1, L2, hL⟩ := List.append_of_mem he
      refine ⟨L1, L2, hL, ?_⟩
      have hnd : ((leftOf es seen).toList.map (·.born)).Nodup := by
        unfold leftOf
        rw [Array.toList_filter]
        exact (List.filter_sublist.map _).nodup h2.2.1
      have hff : (leftOf es (seen.push e.born)).toList = (leftOf es seen).toList.filter (fun x => x.born != e.born) := by
        unfold leftOf
        rw [Array.toList_filter, Array.toList_filter, List.filter_filter]
        refine List.filter_congr fun x _ => ?_
        simp only [Array.contains_push, Bool.not_or]
        rw [Bool.and_comm]
        rfl
      rw [hff, hL, List.filter_append, List.filter_cons]
      rw [hL, List.map_append, List.map_cons, List.nodup_append] at hnd
      obtain ⟨n1, n2, n3⟩ := hnd
      rw [List.nodup_cons] at n2
      have f1 : L1.filter (fun x => x.born != e.born) = L1 := List.filter_eq_self.2 fun x hx => by
        have := n3 _ (List.mem_map.2 ⟨x, hx, rfl⟩) e.born (by simp)
        simpa using this
      have f2 : L2.filter (fun x => x.born != e.born) = L2 := List.filter_eq_self.2 fun x hx => by
        simp only [bne_iff_ne]
        intro heq
        exact n2.1 (heq ▸ List.mem_map.2 ⟨x, hx, rfl⟩)
      simp [f1, f2]
    obtain ⟨L1, L2, hL, hL'⟩ := hleft
    refine ⟨keyInt e.key, e.val, L1.map prOf, L2.map prOf, setBlock w1 it (.mapIter (some r) clock (seen.push e.born) clock), ?_, ?_, ?_, ?_, ?_⟩
    · rw [hL, List.map_append, List.map_cons]; rfl
    · rw [hr, ← hkey]
    · exact ⟨es, clock, seen.push e.born, clock, (hb1.2 r (Ne.symm hne)).trans h11, h2, h3, h4, hb1.1, Nat.le_refl _, by rw [hL', List.map_append]⟩
    · have hz : w1.heap = w.heap := by rcases hw1 with rfl | rfl <;> rfl
      refine ⟨?_, ?_, ?_, by simp [setBlock, hz], fun i _ hi => (hb1.2 i (fun e => hi (by rw [e]))).trans (by rw [hz])⟩ <;> rcases hw1 with rfl | rfl <;> rfl
    · have := run_entry_at (P := P) (setBlock w1 it (.mapIter (some r) clock (seen.push e.born) clock)) it r clock seen es clock e hb1.1 ((hb1.2 r (Ne.symm hne)).trans h11) hes h2.2.1
      rw [this, ← hkey]

theorem wpList_range_im {ops : Array Oper} {rest : List Oper} {o : Oper} {a : Act} {Q : Exit → Act → World → Prop} (hg : o.guard = none) (x : Operand) (t : TypeId) (hop : o.op = Op.range t x)
    (k e : TypeId) (ht : P.underlying t = some (.map k e)) (r : Nat) (hx : a.eval x = .map (some r)) (h : MapOf w r M)
    (hK : ∀ it W', IterOf W' it r M M → Below w.heap.size w W' → w.heap.size ≤ it → wpList P ops Q rest (a.put o.dst (.pointer (some ⟨it, 0, none⟩))) W') : wpList P ops Q (o :: rest) a w := by
  refine wpList_plain hg fun K' hK' => ?_
  obtain ⟨ob, hrun, hit⟩ := h.run_range (P := P) ht
  unfold Oper.wp
  simp [execOp, hop, hx, hrun, Result.andThen]
  exact hK' _ _ (hK _ _ hit ((Below.refl _ _).alloc (Nat.le_refl _) _) (Nat.le_refl _))
theorem wpList_next_im {ops : Array Oper} {rest : List Oper} {o : Oper} {a : Act} {Q : Exit → Act → World → Prop} (hg : o.guard = none) (x : Operand) (hop : o.op = Op.next x false)
    (it r : Nat) (hx : a.eval x = .pointer (some ⟨it, 0, none⟩)) (h : IterOf w it r M L)
    (h0 : L = [] → wpList P ops Q rest (a.put o.dst (.tuple #[.bool false])) w)
    (h1 : ∀ k v L1 L2 w', L = L1 ++ (k, v) :: L2 → IterOf w' it r M (L1 ++ L2) → w.grownBy w' (some it) → (Instr.entry (.pointer (some ⟨it, 0, none⟩))).run P w' = .ok (.tuple #[.int .i64 k, v]) w' →
      wpList P ops Q rest (a.put o.dst (.tuple #[.bool true, .int .i64 k, v])) w') : wpList P ops Q (o :: rest) a w := by
  refine wpList_plain hg fun K' hK' => ?_
  unfold Oper.wp
  rcases h.run_next (P := P) (ty := o.type) with ⟨hL, hrun⟩ | ⟨k, v, L1, L2, w', hL, hrun, hit, hgr, hen⟩
  · simp [execOp, hop, hx, hrun, Result.andThen]
    exact hK' _ _ (h0 hL)
  · simp [execOp, hop, hx, hrun, Result.andThen]
    exact hK' _ _ (h1 k v L1 L2 w' hL hit hgr hen)
theorem wpList_put_im {ops : Array Oper} {rest : List Oper} {o : Oper} {a : Act} {Q : Exit → Act → World → Prop} (hg : o.guard = none) (hd : o.dst = none) (m x v : Operand) (t : TypeId) (hop : o.op = Op.mapUpdate t m x v)
    (k e : TypeId) (ht : P.underlying t = some (.map k e)) (hk : P.underlying k = some (.int .i64)) (r : Nat) (hm : a.eval m = .map (some r)) (h : MapOf w r M) (n : Int) (val : Value) (hx : a.eval x = .int .i64 n) (hv : a.eval v = val)
    (hK : ∀ w', MapOf w' r (put M n val) → w.grownBy w' (some r) → wpList P ops Q rest a w') : wpList P ops Q (o :: rest) a w := by
  refine wpList_plain hg fun K' hK' => ?_
  obtain ⟨w', hrun, h1, h2⟩ := h.run_put (P := P) (n := n) ht hk val
  unfold Oper.wp
  simp [execOp, hop, hm, hx, hv, hrun, Result.andThen]
  refine hK' _ _ ?_
  rw [hd]
  exact hK w' h1 h2
end
end Go.Proofs.Ytnejacogflkmmaa

/- The store of package sheet in memory. -/
namespace Go.Proofs.Ytnejacogflkmmaa
open Go.RowKit
structure Sheet where
  id : Int
  root : Int
  grade : Int
  colour : Int
  lot : Int
  made : Int
  width : Int
  length : Int
  faults : List Pt
structure Piece where
  id : Int
  root : Int
  lot : Int
  grade : Int
  colour : Int
  width : Int
  length : Int
  use : Int
structure Kin where
  grade : Int
  colour : Int
  made : Int
structure SS where
  rules : Shelf
  items : List (Int × Sheet)
  pieces : List (Int × Piece)
  parent : List (Int × Int)
  lots : List (Int × Kin)
  last : Int
  received : Int
  waste : Int
def Piece.val (p : Piece) : Value := .agg #[.int .i64 p.id, .int .i64 p.root, .int .i64 p.lot, .int .i64 p.grade, .int .i64 p.colour, .int .i64 p.width, .int .i64 p.length, .int .i64 p.use]
def Kin.val (k : Kin) : Value := .agg #[.int .i64 k.grade, .int .i64 k.colour, .int .i64 k.made]
def Sheet.valAt (x : Sheet) (A : Option Addr) (c : Nat) : Value :=
  .agg #[.int .i64 x.id, .int .i64 x.root, .int .i64 x.grade, .int .i64 x.colour, .int .i64 x.lot, .int .i64 x.made, .int .i64 x.width, .int .i64 x.length, .slice A x.faults.length c]
/-- where the faults of an item lie: below B0, or in a row of spans -/
def FarOk (w : World) (B0 : Nat) (A : Option Addr) : Prop := ∀ ad, A = some ad → ad.block < B0 ∨ ∃ cs fr, w.heap[ad.block]? = some (.cells cs 87 fr)
def SheetVal (w : World) (B0 : Nat) (x : Sheet) (v : Value) : Prop := ∃ A c, v = x.valAt A c ∧ Slc Pt.enc 2 w w.heap.size A x.faults ∧ FarOk w B0 A
def storeCells_ (s : SS) (ri rp rq rl : Nat) : Array Value :=
  #[.int .i64 s.rules.minWidth, .int .i64 s.rules.minLength, .int .i64 s.rules.l0, .int .i64 s.rules.l1, .int .i64 s.rules.l2, .bool true, .map (some ri), .map (some rp), .map (some rq), .map (some rl), .int .i64 s.last, .int .i64 s.received, .int .i64 s.waste]
def kv {V : Type} (f : V → Value) (p : Int × V) : Int × Value := (p.1, f p.2)
structure StoreAt (w : World) (B0 g ri rp rq rl : Nat) (s : SS) : Prop where
  blk : Blk w g 79 (storeCells_ s ri rp rq rl)
  low : B0 ≤ g ∧ B0 ≤ ri ∧ B0 ≤ rp ∧ B0 ≤ rq ∧ B0 ≤ rl
  items : ∃ MI, MapOf w ri MI ∧ MI.length = s.items.length ∧ ∀ (i : Nat) p q, s.items[i]? = some p → MI[i]? = some q → p.1 = q.1 ∧ SheetVal w B0 p.2 q.2
  pieces : MapOf w rp (s.pieces.map (kv Piece.val))
  parent : MapOf w rq (s.parent.map (kv (Value.int .i64)))
  lots : MapOf w rl (s.lots.map (kv Kin.val))
  ne : ri ≠ rp ∧ ri ≠ rq ∧ ri ≠ rl ∧ rp ≠ rq ∧ rp ≠ rl ∧ rq ≠ rl


section
variable {w w' : World} {B0 g ri rp rq rl : Nat} {s : SS}
/-- the blocks of a store -/
def OfStore (g ri rp rq rl : Nat) (k : Nat) : Prop := k = g ∨ k = ri ∨ k = rp ∨ k = rq ∨ k = rl
theorem FarOk.ne_map {A : Option Addr} {r : Nat} {M : List (Int × Value)} (h : FarOk w B0 A) (hM : MapOf w r M) (hr : B0 ≤ r) : ∀ ad, A = some ad → ad.block ≠ r := by
  intro ad ha he
  rcases h ad ha with h | ⟨cs, fr, h⟩
  · omega
  · obtain ⟨es, clock, h1, _⟩ := hM
    rw [he, h1] at h; cases h
theorem FarOk.ne_blk {A : Option Addr} {g : Nat} {cs : Array Value} (h : FarOk w B0 A) (hB : Blk w g 79 cs) (hr : B0 ≤ g) : ∀ ad, A = some ad → ad.block ≠ g := by
  intro ad ha he
  rcases h ad ha with h | ⟨cs', fr, h⟩
  · omega
  · unfold Blk at hB
    rw [he, hB] at h
    injection h with h; injection h with _ h
    cases h
/-- an item's value stays over whatever leaves its faults' block -/
theorem SheetVal.keep {x : Sheet} {v : Value} (h : SheetVal w B0 x v) (hsz : w.heap.size ≤ w'.heap.size) {b : Nat} (hk : ∀ k, k < w.heap.size → k ≠ b → w'.heap[k]? = w.heap[k]?)
    (hne : ∀ A, FarOk w B0 A → ∀ ad, A = some ad → ad.block ≠ b) : SheetVal w' B0 x v := by
  obtain ⟨A, c, rfl, hS, hF⟩ := h
  refine ⟨A, c, rfl, fun i y hy => ?_, fun ad ha => ?_⟩
  · obtain ⟨b', off, hA, hb', hc⟩ := hS i y hy
    refine ⟨b', off, hA, by omega, fun j v hv => ?_⟩
    rw [← hc j v hv]
    exact World.cell?_of_block (hk b' hb' (hne A hF _ hA))
  · rcases hF ad ha with h | ⟨cs, fr, h⟩
    · exact .inl h
    · refine .inr ⟨cs, fr, (hk _ ?_ (hne A hF _ ha)).trans h⟩
      exact (Array.getElem?_eq_some_iff.1 h).1

theorem StoreAt.lts (h : StoreAt w B0 g ri rp rq rl s) : g < w.heap.size ∧ ri < w.heap.size ∧ rp < w.heap.size ∧ rq < w.heap.size ∧ rl < w.heap.size := by
  obtain ⟨MI, hm, _⟩ := h.items
  exact ⟨h.blk.lt, hm.lt, h.pieces.lt, h.parent.lt, h.lots.lt⟩
theorem StoreAt.gne (h : StoreAt w B0 g ri rp rq rl s) : ri ≠ g ∧ rp ≠ g ∧ rq ≠ g ∧ rl ≠ g := by
  obtain ⟨MI, hm, _⟩ := h.items
  exact ⟨hm.blk_ne h.blk, h.pieces.blk_ne h.blk, h.parent.blk_ne h.blk, h.lots.blk_ne h.blk⟩
theorem StoreAt.below (h : StoreAt w B0 g ri rp rq rl s) (hb : Below w.heap.size w w') : StoreAt w' B0 g ri rp rq rl s := by
  obtain ⟨l0, l1, l2, l3, l4⟩ := h.lts
  obtain ⟨MI, hm, hl, hi⟩ := h.items
  exact ⟨h.blk.below hb l0, h.low, ⟨MI, hm.below hb l1, hl, fun i p q hp hq => ⟨(hi i p q hp hq).1, (hi i p q hp hq).2.keep (b := w.heap.size) hb.size (fun k hk _ => hb.block k hk) (fun A hF ad ha he => by
    obtain ⟨A', c, _, hS, hF'⟩ := (hi i p q hp hq).2
    rcases hF ad ha with h1 | ⟨cs, fr, h1⟩
    · have := h.low.1; omega
    · have := (Array.getElem?_eq_some_iff.1 h1).1; omega)⟩⟩, h.pieces.below hb l2, h.parent.below hb l3, h.lots.below hb l4, h.ne⟩
theorem StoreAt.alloc (h : StoreAt w B0 g ri rp rq rl s) (o : Obj) : StoreAt (w.alloc o) B0 g ri rp rq rl s := h.below ((Below.refl _ _).alloc (Nat.le_refl _) o)
theorem StoreAt.drew (h : StoreAt w B0 g ri rp rq rl s) : StoreAt w.drew B0 g ri rp rq rl s := h.below ((Below.refl _ _).drew)
theorem StoreAt.setCell (h : StoreAt w B0 g ri rp rq rl s) {p : Addr} (hp : w.heap.size ≤ p.block) (u : Value) : StoreAt (w.setCell p u) B0 g ri rp rq rl s := h.below ((Below.refl _ _).setCell hp u)
/-- items over a store into the map r of the store, or into its struct -/
theorem StoreAt.items_keep (h : StoreAt w B0 g ri rp rq rl s) {r : Nat} (hg : w.grownBy w' (some r)) (hr : r = rp ∨ r = rq ∨ r = rl ∨ r = g) :
    ∃ MI, MapOf w' ri MI ∧ MI.length = s.items.length ∧ ∀ (i : Nat) p q, s.items[i]? = some p → MI[i]? = some q → p.1 = q.1 ∧ SheetVal w' B0 p.2 q.2 := by
  obtain ⟨MI, hm, hl, hi⟩ := h.items
  obtain ⟨n1, n2, n3, n4, n5, n6⟩ := h.ne
  have hgn := h.gne
  obtain ⟨w0, w1, w2, w3, w4⟩ := h.low
  refine ⟨MI, hm.grown hg (by simp; rcases hr with rfl | rfl | rfl | rfl <;> omega), hl, fun i p q hp hq => ⟨(hi i p q hp hq).1, (hi i p q hp hq).2.keep (b := r) hg.size (fun k hk hne => hg.block k hk (by simpa using hne)) fun A hF => ?_⟩⟩
  rcases hr with rfl | rfl | rfl | rfl
  · exact hF.ne_map h.pieces w2
  · exact hF.ne_map h.parent w3
  · exact hF.ne_map h.lots w4
  · exact hF.ne_blk h.blk w0
theorem StoreAt.put_parent (h : StoreAt w B0 g ri rp rq rl s) {P' : List (Int × Int)} (hg : w.grownBy w' (some rq)) (hM : MapOf w' rq (P'.map (kv (Value.int .i64)))) : StoreAt w' B0 g ri rp rq rl { s with parent := P' } := by
  obtain ⟨n1, n2, n3, n4, n5, n6⟩ := h.ne
  have hgn := h.gne
  exact ⟨h.blk.grown hg (by simp; omega), h.low, h.items_keep hg (by simp), h.pieces.grown hg (by simp; omega), hM, h.lots.grown hg (by simp; omega), h.ne⟩
theorem StoreAt.put_lots (h : StoreAt w B0 g ri rp rq rl s) {L' : List (Int × Kin)} (hg : w.grownBy w' (some rl)) (hM : MapOf w' rl (L'.map (kv Kin.val))) : StoreAt w' B0 g ri rp rq rl { s with lots := L' } := by
  obtain ⟨n1, n2, n3, n4, n5, n6⟩ := h.ne
  have hgn := h.gne
  exact ⟨h.blk.grown hg (by simp; omega), h.low, h.items_keep hg (by simp), h.pieces.grown hg (by simp; omega), h.parent.grown hg (by simp; omega), hM, h.ne⟩
theorem StoreAt.put_pieces (h : StoreAt w B0 g ri rp rq rl s) {P' : List (Int × Piece)} (hg : w.grownBy w' (some rp)) (hM : MapOf w' rp (P'.map (kv Piece.val))) : StoreAt w' B0 g ri rp rq rl { s with pieces := P' } := by
  obtain ⟨n1, n2, n3, n4, n5, n6⟩ := h.ne
  have hgn := h.gne
  exact ⟨h.blk.grown hg (by simp; omega), h.low, h.items_keep hg (by simp), hM, h.parent.grown hg (by simp; omega), h.lots.grown hg (by simp; omega), h.ne⟩
theorem grownBy_setCell (w : World) (p : Addr) (u : Value) : w.grownBy (w.setCell p u) (some p.block) :=
  ⟨rfl, rfl, rfl, by simp [World.setCell], fun i _ hi => Below.heap_setCell w p u i (fun e => hi (by rw [e]))⟩
theorem StoreAt.set_ (h : StoreAt w B0 g ri rp rq rl s) {k : Nat} {u : Value} {s' : SS} (hc : (storeCells_ s ri rp rq rl).setIfInBounds k u = storeCells_ s' ri rp rq rl) (h1 : s'.items = s.items) (h2 : s'.pieces = s.pieces) (h3 : s'.parent = s.parent) (h4 : s'.lots = s.lots) :
    StoreAt (w.setCell ⟨g, k, none⟩ u) B0 g ri rp rq rl s' := by
  have hg := grownBy_setCell w ⟨g, k, none⟩ u
  have hgn := h.gne
  refine ⟨hc ▸ h.blk.set_ k u, h.low, h1 ▸ h.items_keep hg (by simp), h2 ▸ h.pieces.grown hg (by simp; omega), h3 ▸ h.parent.grown hg (by simp; omega), h4 ▸ h.lots.grown hg (by simp; omega), h.ne⟩
theorem look_kv {V : Type} (f : V → Value) (M : List (Int × V)) (k : Int) : look (M.map (kv f)) k = (look M k).map f := by
  unfold look
  rw [List.find?_map]
  cases h : M.find? ((fun p : Int × Value => p.1 == k) ∘ kv f) with
  | none => have h' : M.find? (fun p => p.1 == k) = none := h
            rw [h']; rfl
  | some p => have h' : M.find? (fun p => p.1 == k) = some p := h
              rw [h']; rfl
theorem look_kv_none {V : Type} {f : V → Value} {M : List (Int × V)} {k : Int} (h : look M k = none) : look (M.map (kv f)) k = none := by rw [look_kv, h]; rfl
theorem look_kv_some {V : Type} {f : V → Value} {M : List (Int × V)} {k : Int} {v : V} (h : look M k = some v) : look (M.map (kv f)) k = some (f v) := by rw [look_kv, h]; rfl
theorem put_kv {V : Type} (f : V → Value) (M : List (Int × V)) (k : Int) (v : V) : put (M.map (kv f)) k (f v) = (put M k v).map (kv f) := by
  unfold put
  rw [look_kv, Option.isSome_map]
  split
  · rw [List.map_map, List.map_map]
    refine List.map_congr_left fun p _ => ?_
    by_cases h : (p.1 == k) = true <;> simp [Function.comp, kv, h]
  · simp [kv]
theorem del_kv {V : Type} (f : V → Value) (M : List (Int × V)) (k : Int) : del (M.map (kv f)) k = (del M k).map (kv f) := by
  unfold del
  rw [List.filter_map]; rfl
/-- two maps that hold related elements at the same keys, in the same order -/
def Zip {V U : Type} (R : V → U → Prop) (L : List (Int × V)) (M : List (Int × U)) : Prop := M.length = L.length ∧ ∀ (i : Nat) p q, L[i]? = some p → M[i]? = some q → p.1 = q.1 ∧ R p.2 q.2
theorem Zip.cons {V U : Type} {R : V → U → Prop} {p : Int × V} {q : Int × U} {L : List (Int × V)} {M : List (Int × U)} (h : Zip R (p :: L) (q :: M)) : (p.1 = q.1 ∧ R p.2 q.2) ∧ Zip R L M :=
  ⟨h.2 0 p q rfl rfl, by have := h.1; simp at this; exact this, fun i p' q' hp hq => h.2 (i + 1) p' q' (by simpa using hp) (by simpa using hq)⟩
theorem Zip.mk_cons {V U : Type} {R : V → U → Prop} {p : Int × V} {q : Int × U} {L : List (Int × V)} {M : List (Int × U)} (h : p.1 = q.1 ∧ R p.2 q.2) (hz : Zip R L M) : Zip R (p :: L) (q :: M) :=
  ⟨by have := hz.1; simp; exact this, fun i p' q' hp hq => by
    cases i with
    | zero => simp at hp hq; subst hp; subst hq; exact h
    | succ i => exact hz.2 i p' q' (by simpa using hp) (by simpa using hq)⟩
theorem Zip.look_some {V U : Type} {R : V → U → Prop} {k : Int} : ∀ {L : List (Int × V)} {M : List (Int × U)}, Zip R L M → (look L k = none ∧ look M k = none) ∨ ∃ x v, look L k = some x ∧ look M k = some v ∧ R x v
  | [], [], _ => .inl ⟨rfl, rfl⟩
  | [], q :: M, h => by have := h.1; simp at this
  | p :: L, [], h => by have := h.1; simp at this
  | p :: L, q :: M, h => by
    obtain ⟨⟨h1, h2⟩, hz⟩ := h.cons
    by_cases hk : p.1 = k
    · have hk' : q.1 = k := h1 ▸ hk
      exact .inr ⟨p.2, q.2, by simp [look, hk], by simp [look, hk'], h2⟩
    · have hk' : q.1 ≠ k := h1 ▸ hk
      have e1 : look (p :: L) k = look L k := by simp [look, hk]
      have e2 : look (q :: M) k = look M k := by simp [look, hk']
      rw [e1, e2]
      exact hz.look_some
theorem Zip.map_if {V U : Type} {R : V → U → Prop} {k : Int} {x : V} {v : U} (hx : R x v) : ∀ {L : List (Int × V)} {M : List (Int × U)}, Zip R L M → Zip R (L.map fun p => if p.1 == k then (k, x) else p) (M.map fun p => if p.1 == k then (k, v) else p)
  | [], [], h => h
  | [], q :: M, h => by have := h.1; simp at this
  | p :: L, [], h => by have := h.1; simp at this
  | p :: L, q :: M, h => by
    obtain ⟨⟨h1, h2⟩, hz⟩ := h.cons
    refine Zip.mk_cons ?_ (Zip.map_if hx hz)
    by_cases hk : p.1 = k
    · have hk' : q.1 = k := h1 ▸ hk
      simp [hk, hk', hx]
    · have hk' : q.1 ≠ k := h1 ▸ hk
      simp [hk', h1, h2]
theorem Zip.snoc {V U : Type} {R : V → U → Prop} {k : Int} {x : V} {v : U} (hx : R x v) : ∀ {L : List (Int × V)} {M : List (Int × U)}, Zip R L M → Zip R (L ++ [(k, x)]) (M ++ [(k, v)])
  | [], [], _ => Zip.mk_cons ⟨rfl, hx⟩ ⟨rfl, fun i p q h => by simp at h⟩
  | [], q :: M, h => by have := h.1; simp at this
  | p :: L, [], h => by have := h.1; simp at this
  | p :: L, q :: M, h => Zip.mk_cons h.cons.1 (Zip.snoc hx h.cons.2)
theorem Zip.put_ {V U : Type} {R : V → U → Prop} {k : Int} {x : V} {v : U} {L : List (Int × V)} {M : List (Int × U)} (hx : R x v) (h : Zip R L M) : Zip R (put L k x) (put M k v) := by
  unfold put
  rcases h.look_some (k := k) with ⟨h1, h2⟩ | ⟨x', v', h1, h2, _⟩
  · rw [h1, h2]; exact h.snoc hx
  · rw [h1, h2]; exact h.map_if hx
theorem Zip.filter_ {V U : Type} {R : V → U → Prop} {k : Int} : ∀ {L : List (Int × V)} {M : List (Int × U)}, Zip R L M → Zip R (del L k) (del M k)
  | [], [], h => h
  | [], q :: M, h => by have := h.1; simp at this
  | p :: L, [], h => by have := h.1; simp at this
  | p :: L, q :: M, h => by
    obtain ⟨⟨h1, h2⟩, hz⟩ := h.cons
    have ih := Zip.filter_ (k := k) hz
    unfold del at ih ⊢
    by_cases hk : p.1 = k
    · have hk' : q.1 = k := h1 ▸ hk
      simpa [hk, hk'] using ih
    · have hk' : q.1 ≠ k := h1 ▸ hk
      simp only [List.filter_cons, bne_iff_ne, ne_eq, hk, hk', not_false_eq_true, if_true]
      exact Zip.mk_cons ⟨h1, h2⟩ ih
theorem StoreAt.put_items {w w' : World} {B0 g ri rp rq rl : Nat} {s : SS} (h : StoreAt w B0 g ri rp rq rl s) {I' : List (Int × Sheet)} {MI' : List (Int × Value)} (hg : w.grownBy w' (some ri)) (hM : MapOf w' ri MI')
    (hz : Zip (SheetVal w B0) I' MI') : StoreAt w' B0 g ri rp rq rl { s with items := I' } := by
  obtain ⟨n1, n2, n3, n4, n5, n6⟩ := h.ne
  have hgn := h.gne
  obtain ⟨MI, hm, _⟩ := h.items
  refine ⟨h.blk.grown hg (by simp; omega), h.low, ⟨MI', hM, hz.1, fun i p q hp hq => ⟨(hz.2 i p q hp hq).1, (hz.2 i p q hp hq).2.keep (b := ri) hg.size (fun k hk hne => hg.block k hk (by simpa using hne)) fun A hF => hF.ne_map hm h.low.2.1⟩⟩, h.pieces.grown hg (by simp; omega), h.parent.grown hg (by simp; omega), h.lots.grown hg (by simp; omega), h.ne⟩
theorem StoreAt.zip {w : World} {B0 g ri rp rq rl : Nat} {s : SS} (h : StoreAt w B0 g ri rp rq rl s) : ∃ MI, MapOf w ri MI ∧ Zip (SheetVal w B0) s.items MI := by
  obtain ⟨MI, hm, hl, hi⟩ := h.items
  exact ⟨MI, hm, hl, hi⟩
end
end Go.Proofs.Ytnejacogflkmmaa

/- The store of package sheet in memory, with its footprint. -/
namespace Go.Proofs.Ytnejacogflkmmaa
open Go.RowKit
/-- where a store lies -/
structure Fp where
  g : Nat
  ri : Nat
  rp : Nat
  rq : Nat
  rl : Nat
def Fp.has (p : Fp) (k : Nat) : Prop := k = p.g ∨ k = p.ri ∨ k = p.rp ∨ k = p.rq ∨ k = p.rl
/-- an item in memory: its faults lie in a row of spans -/
def ItV (w : World) (x : Sheet) (v : Value) : Prop :=
  ∃ A c, v = x.valAt A c ∧ Slc Pt.enc 2 w w.heap.size A x.faults ∧ (x.faults ≠ [] → ∃ ad cs fr, A = some ad ∧ w.heap[ad.block]? = some (.cells cs 87 fr))
structure StA (w : World) (p : Fp) (s : SS) : Prop where
  blk : Blk w p.g 79 (storeCells_ s p.ri p.rp p.rq p.rl)
  items : ∃ MI, MapOf w p.ri MI ∧ Zip (ItV w) s.items MI
  pieces : MapOf w p.rp (s.pieces.map (kv Piece.val))
  parent : MapOf w p.rq (s.parent.map (kv (Value.int .i64)))
  lots : MapOf w p.rl (s.lots.map (kv Kin.val))
  ne : p.ri ≠ p.rp ∧ p.ri ≠ p.rq ∧ p.ri ≠ p.rl ∧ p.rp ≠ p.rq ∧ p.rp ≠ p.rl ∧ p.rq ≠ p.rl
def NoSpan (w : World) (k : Nat) : Prop := ∀ cs fr, w.heap[k]? ≠ some (.cells cs 87 fr)
section
variable {w w' : World} {p : Fp} {s s' : SS} {S : Nat → Prop}
theorem ItV.chg {x : Sheet} {v : Value} (h : ItV w x v) (hc : Chg S w w') (hS : ∀ k, S k → NoSpan w k) : ItV w' x v := by
  obtain ⟨A, c, rfl, hsl, hf⟩ := h
  refine ⟨A, c, rfl, fun i y hy => ?_, fun hne => ?_⟩
  · obtain ⟨ad, cs, fr, rfl, hb⟩ := hf (by rintro he; rw [he] at hy; simp at hy)
    obtain ⟨b, off, hA, hlt, hcell⟩ := hsl i y hy
    injection hA with hA
    subst hA
    refine ⟨b, off, rfl, Nat.lt_of_lt_of_le hlt hc.size, fun j u hu => ?_⟩
    rw [← hcell j u hu]
    exact World.cell?_of_block (hc.block b hlt fun hs => hS b hs cs fr hb)
  · obtain ⟨ad, cs, fr, hA, hb⟩ := hf hne
    exact ⟨ad, cs, fr, hA, (hc.block _ (Array.getElem?_eq_some_iff.1 hb).1 fun hs => hS _ hs cs fr hb).trans hb⟩
theorem ItV.below {x : Sheet} {v : Value} (h : ItV w x v) (hb : Below w.heap.size w w') : ItV w' x v := h.chg (S := fun _ => False) (.of_below hb) fun _ h => h.elim
theorem Zip.imp {V U : Type} {R R' : V → U → Prop} {L : List (Int × V)} {M : List (Int × U)} (h : Zip R L M) (hi : ∀ x v, R x v → R' x v) : Zip R' L M := ⟨h.1, fun i p q hp hq => ⟨(h.2 i p q hp hq).1, hi _ _ (h.2 i p q hp hq).2⟩⟩
theorem NoSpan.map_ {r : Nat} {M : List (Int × Value)} (h : MapOf w r M) : NoSpan w r := fun cs fr he => by
  obtain ⟨es, clock, h1, _⟩ := h
  rw [h1] at he; cases he
theorem NoSpan.blk {b : Nat} {t : TypeId} {cs : Array Value} (h : Blk w b t cs) (ht : t ≠ 87) : NoSpan w b := fun cs' fr he => by
  unfold Blk at h
  rw [h] at he
  injection he with he
  injection he with _ he
  exact ht he
theorem StA.noSpan (h : StA w p s) {k : Nat} (hk : p.has k) : NoSpan w k := by
  obtain ⟨MI, hm, _⟩ := h.items
  rcases hk with rfl | rfl | rfl | rfl | rfl
  · exact NoSpan.blk h.blk (by decide)
  · exact NoSpan.map_ hm
  · exact NoSpan.map_ h.pieces
  · exact NoSpan.map_ h.parent
  · exact NoSpan.map_ h.lots
theorem StA.lt (h : StA w p s) {k : Nat} (hk : p.has k) : k < w.heap.size := by
  obtain ⟨MI, hm, _⟩ := h.items
  rcases hk with rfl | rfl | rfl | rfl | rfl
  · exact h.blk.lt
  · exact hm.lt
  · exact h.pieces.lt
  · exact h.parent.lt
  · exact h.lots.lt
theorem StA.gne (h : StA w p s) : p.ri ≠ p.g ∧ p.rp ≠ p.g ∧ p.rq ≠ p.g ∧ p.rl ≠ p.g := by
  obtain ⟨MI, hm, _⟩ := h.items
  exact ⟨hm.blk_ne h.blk, h.pieces.blk_ne h.blk, h.parent.blk_ne h.blk, h.lots.blk_ne h.blk⟩
/-- a block of another type is none of the store's -/
theorem StA.nhas (h : StA w p s) {b : Nat} {t : TypeId} {cs : Array Value} (hb : Blk w b t cs) (ht : t ≠ 79) : ¬ p.has b := by
  obtain ⟨MI, hm, _⟩ := h.items
  rintro (rfl | rfl | rfl | rfl | rfl)
  · exact hb.ne_ h.blk ht rfl
  · exact hm.blk_ne hb rfl
  · exact h.pieces.blk_ne hb rfl
  · exact h.parent.blk_ne hb rfl
  · exact h.lots.blk_ne hb rfl
theorem MapOf.chg {r : Nat} {M : List (Int × Value)} (h : MapOf w r M) (hc : Chg S w w') (hn : ¬ S r) : MapOf w' r M := h.same (hc.block r h.lt hn)
theorem StA.far (h : StA w p s) (hc : Chg S w w') (hS : ∀ k, S k → ¬ p.has k ∧ NoSpan w k) : StA w' p s := by
  obtain ⟨MI, hm, hz⟩ := h.items
  have hn : ∀ k, p.has k → ¬ S k := fun k hk hs => (hS k hs).1 hk
  exact ⟨h.blk.chg hc (hn _ (by simp [Fp.has])), ⟨MI, hm.chg hc (hn _ (by simp [Fp.has])), hz.imp fun x v hv => hv.chg hc fun k hk => (hS k hk).2⟩, h.pieces.chg hc (hn _ (by simp [Fp.has])), h.parent.chg hc (hn _ (by simp [Fp.has])), h.lots.chg hc (hn _ (by simp [Fp.has])), h.ne⟩
theorem StA.below (h : StA w p s) (hb : Below w.heap.size w w') : StA w' p s := h.far (S := fun _ => False) (.of_below hb) fun _ h => h.elim
theorem StA.alloc (h : StA w p s) (o : Obj) : StA (w.alloc o) p s := h.below ((Below.refl _ _).alloc (Nat.le_refl _) o)
theorem StA.drew (h : StA w p s) : StA w.drew p s := h.below ((Below.refl _ _).drew)
/-- a cell of a block that is none of the store's -/
theorem StA.chg1 (h : StA w p s) {b : Nat} {t : TypeId} {cs : Array Value} (hc : Chg (fun k => k = b) w w') (hb : Blk w b t cs) (h1 : t ≠ 79) (h2 : t ≠ 87) : StA w' p s :=
  h.far hc fun k hk => by subst hk; exact ⟨h.nhas hb h1, NoSpan.blk hb h2⟩
theorem Blk.chgS {b : Nat} {t : TypeId} {cs : Array Value} (hb : Blk w b t cs) (h : StA w p s) (hc : Chg p.has w w') (ht : t ≠ 79) : Blk w' b t cs := hb.chg hc (h.nhas hb ht)
theorem Chg.of_grown' {row : Option Nat} (h : w.grownBy w' row) (hr : ∀ k, row = some k → S k) : Chg S w w' := ⟨h.os, h.tape, h.output, h.size, fun i hi hn => h.block i hi fun e => hn (hr i e.symm)⟩
theorem StA.upd_items (h : StA w p s) {I' : List (Int × Sheet)} {MI' : List (Int × Value)} (hg : w.grownBy w' (some p.ri)) (hM : MapOf w' p.ri MI') (hz : Zip (ItV w) I' MI') : StA w' p { s with items := I' } := by
  obtain ⟨MI, hm, _⟩ := h.items
  obtain ⟨n1, n2, n3, n4, n5, n6⟩ := h.ne
  have hgn := h.gne
  have hc : Chg (fun k => k = p.ri) w w' := .of_grown hg rfl
  exact ⟨h.blk.grown hg (by simp; omega), ⟨MI', hM, hz.imp fun x v hv => hv.chg hc fun k hk => by subst hk; exact NoSpan.map_ hm⟩, h.pieces.grown hg (by simp; omega), h.parent.grown hg (by simp; omega), h.lots.grown hg (by simp; omega), h.ne⟩
theorem StA.items_chg (h : StA w p s) {r : Nat} (hg : w.grownBy w' (some r)) (hr : p.has r) (hne : r ≠ p.ri) : ∃ MI, MapOf w' p.ri MI ∧ Zip (ItV w') s.items MI := by
  obtain ⟨MI, hm, hz⟩ := h.items
  have hc : Chg (fun k => k = r) w w' := .of_grown hg rfl
  exact ⟨MI, hm.grown hg (by simp; omega), hz.imp fun x v hv => hv.chg hc fun k hk => by subst hk; exact h.noSpan hr⟩
theorem StA.upd_pieces (h : StA w p s) {P' : List (Int × Piece)} (hg : w.grownBy w' (some p.rp)) (hM : MapOf w' p.rp (P'.map (kv Piece.val))) : StA w' p { s with pieces := P' } := by
  obtain ⟨n1, n2, n3, n4, n5, n6⟩ := h.ne
  have hgn := h.gne
  exact ⟨h.blk.grown hg (by simp; omega), h.items_chg hg (by simp [Fp.has]) (by omega), hM, h.parent.grown hg (by simp; omega), h.lots.grown hg (by simp; omega), h.ne⟩
theorem StA.upd_parent (h : StA w p s) {P' : List (Int × Int)} (hg : w.grownBy w' (some p.rq)) (hM : MapOf w' p.rq (P'.map (kv (Value.int .i64)))) : StA w' p { s with parent := P' } := by
  obtain ⟨n1, n2, n3, n4, n5, n6⟩ := h.ne
  have hgn := h.gne
  exact ⟨h.blk.grown hg (by simp; omega), h.items_chg hg (by simp [Fp.has]) (by omega), h.pieces.grown hg (by simp; omega), hM, h.lots.grown hg (by simp; omega), h.ne⟩
theorem StA.upd_lots (h : StA w p s) {P' : List (Int × Kin)} (hg : w.grownBy w' (some p.rl)) (hM : MapOf w' p.rl (P'.map (kv Kin.val))) : StA w' p { s with lots := P' } := by
  obtain ⟨n1, n2, n3, n4, n5, n6⟩ := h.ne
  have hgn := h.gne
  exact ⟨h.blk.grown hg (by simp; omega), h.items_chg hg (by simp [Fp.has]) (by omega), h.pieces.grown hg (by simp; omega), h.parent.grown hg (by simp; omega), hM, h.ne⟩
/-- the store's struct turned: a field that is no map -/
theorem StA.upd_blk (h : StA w p s) {cs : Array Value} (hc : Chg (fun k => k = p.g) w w') (hB : Blk w' p.g 79 cs) (he : cs = storeCells_ s' p.ri p.rp p.rq p.rl) (h1 : s'.items = s.items) (h2 : s'.pieces = s.pieces) (h3 : s'.parent = s.parent) (h4 : s'.lots = s.lots) : StA w' p s' := by
  obtain ⟨MI, hm, hz⟩ := h.items
  have hgn := h.gne
  refine ⟨he ▸ hB, ⟨MI, hm.chg hc (by omega), ?_⟩, ?_, ?_, ?_, h.ne⟩
  · rw [h1]; exact hz.imp fun x v hv => hv.chg hc fun k hk => by subst hk; exact NoSpan.blk h.blk (by decide)
  · rw [h2]; exact h.pieces.chg hc (by omega)
  · rw [h3]; exact h.parent.chg hc (by omega)
  · rw [h4]; exact h.lots.chg hc (by omega)
/-- what a call of a store leaves: the store turned, its blocks its own or new ones, all else as it was -/
structure Stp (w : World) (p : Fp) (s' : SS) (w' : World) (p' : Fp) : Prop where
  st : StA w' p' s'
  g : p'.g = p.g
  sub : ∀ k, p'.has k → p.has k ∨ w.heap.size ≤ k
  chg : Chg p.has w w'
theorem Stp.mk1 (h : StA w' p s') (hc : Chg p.has w w') : Stp w p s' w' p := ⟨h, rfl, fun _ h => .inl h, hc⟩
theorem Stp.trans {w2 : World} {p' p2 : Fp} {s2 : SS} (h : Stp w p s' w' p') (h2 : Stp w' p' s2 w2 p2) : Stp w p s2 w2 p2 :=
  ⟨h2.st, h2.g.trans h.g, fun k hk => by
    rcases h2.sub k hk with h3 | h3
    · exact h.sub k h3
    · exact .inr (Nat.le_trans h.chg.size h3), h.chg.trans' h2.chg fun i hi hT => by
    rcases h.sub i hT with h3 | h3
    · exact h3
    · omega⟩
end
end Go.Proofs.Ytnejacogflkmmaa

/- The functions of a store, plain. -/
namespace Go.Proofs.Ytnejacogflkmmaa
structure Need where
  grade : Int
  colour : Int
  width : Int
  length : Int
  count : Int
def lifeF (r : Shelf) (g : Int) : Int := if g = 1 then r.l0 else if g = 2 then r.l1 else r.l2
def oldF (r : Shelf) (x : Sheet) (day : Int) : Bool := decide (lifeF r x.grade < day - x.made)
def useF (r : Shelf) (x : Sheet) (day : Int) : Bool := decide (x.made ≤ day) && !oldF r x day
def imax (a b : Int) : Int := if a < b then b else a
def imin (a b : Int) : Int := if b < a then b else a
def partOf (a b : Int) (f : Pt) : Pt := ⟨imax f.a a - a, imin f.b b - a⟩
/-- the faults of a part of an item -/
def partF (fs : List Pt) (a b : Int) : List Pt := (fs.map (partOf a b)).filter fun p => decide (p.a < p.b)
def lessS (a b : Sheet) : Bool := decide (a.width < b.width) || (decide (a.width = b.width) && (decide (a.length < b.length) || (decide (a.length = b.length) && decide (a.id < b.id))))
noncomputable def candF (r : Shelf) (n : Need) (lot day : Int) (x : Sheet) : Bool := decide (x.lot = lot) && decide (n.width ≤ x.width) && useF r x day && (clear x.length x.faults n.length).isSome
/-- the item from which a piece is cut, or none -/
def Chosen (s : SS) (n : Need) (lot day : Int) : Option Sheet → Prop
  | none => ∀ q ∈ s.items, candF s.rules n lot day q.2 = false
  | some b => (b.id, b) ∈ s.items ∧ candF s.rules n lot day b = true ∧ ∀ q ∈ s.items, candF s.rules n lot day q.2 = true → lessS q.2 b = false
noncomputable def chosen (s : SS) (n : Need) (lot day : Int) : Option Sheet := open Classical in if h : ∃ o, Chosen s n lot day o then h.choose else none
theorem less_total {a b : Sheet} (h1 : lessS a b = false) (h2 : lessS b a = false) : a.id = b.id := by
  unfold lessS at h1 h2
  simp only [Bool.or_eq_false_iff, Bool.and_eq_false_iff, decide_eq_false_iff_not] at h1 h2
  omega
def NodupK {V : Type} (M : List (Int × V)) : Prop := (M.map (·.1)).Nodup
/-- the keys are the Ids -/
def Keyed (s : SS) : Prop := NodupK s.items ∧ ∀ q ∈ s.items, q.1 = q.2.id
theorem Chosen.unique {s : SS} {n : Need} {lot day : Int} (hk : Keyed s) {o o' : Option Sheet} (h : Chosen s n lot day o) (h' : Chosen s n lot day o') : o = o' := by
  match o, o', h, h' with
  | none, none, _, _ => rfl
  | none, some b, h, h' => have := h _ h'.1; rw [h'.2.1] at this; cases this
  | some b, none, h, h' => have := h' _ h.1; rw [h.2.1] at this; cases this
  | some b, some b', h, h' =>
    have e1 := h.2.2 _ h'.1 h'.2.1
    have e2 := h'.2.2 _ h.1 h.2.1
    have e3 := less_total e1 e2
    have l1 := look_mem hk.1 h.1
    have l2 := look_mem hk.1 h'.1
    have e3' : b'.id = b.id := e3
    rw [e3', l1] at l2
    injection l2 with l2
    rw [l2]
theorem chosen_eq {s : SS} {n : Need} {lot day : Int} (hk : Keyed s) {o : Option Sheet} (h : Chosen s n lot day o) : chosen s n lot day = o := by
  unfold chosen
  rw [dif_pos ⟨o, h⟩]
  exact Chosen.unique hk (Exists.choose_spec (⟨o, h⟩ : ∃ o, Chosen s n lot day o)) h
theorem less_trans {a b c : Sheet} (h1 : lessS b a = false) (h2 : lessS c b = false) : lessS c a = false := by
  unfold lessS at *
  simp only [Bool.or_eq_false_iff, Bool.and_eq_false_iff, decide_eq_false_iff_not] at *
  omega
theorem chosen_some {s : SS} {n : Need} {lot day : Int} : ∀ (L : List (Int × Sheet)), (∀ q ∈ L, q.1 = q.2.id) → (∀ q ∈ L, candF s.rules n lot day q.2 = false) ∨ ∃ b, (b.id, b) ∈ L ∧ candF s.rules n lot day b = true ∧ ∀ q ∈ L, candF s.rules n lot day q.2 = true → lessS q.2 b = false
  | [], _ => .inl fun q hq => by cases hq
  | q :: L, hL => by
    rcases chosen_some (s := s) (n := n) (lot := lot) (day := day) L (fun q hq => hL q (List.mem_cons_of_mem _ hq)) with h | ⟨b, h1, h2, h3⟩
    · by_cases hc : candF s.rules n lot day q.2 = true
      case neg =>
        refine .inl fun p hp => ?_
        rcases List.mem_cons.1 hp with rfl | hp
        · simpa using hc
        · exact h p hp
      case pos =>
        refine .inr ⟨q.2, ?_, hc, fun p hp hpc => ?_⟩
        · have : (q.2.id, q.2) = q := Prod.ext (hL q (List.mem_cons_self ..)).symm rfl
          rw [this]; exact List.mem_cons_self ..
        · rcases List.mem_cons.1 hp with rfl | hp
          · unfold lessS; simp
          · rw [h p hp] at hpc; cases hpc
    · by_cases hc : candF s.rules n lot day q.2 = true ∧ lessS q.2 b = true
      · refine .inr ⟨q.2, ?_, hc.1, fun p hp hpc => ?_⟩
        · have : (q.2.id, q.2) = q := Prod.ext (hL q (List.mem_cons_self ..)).symm rfl
          rw [this]; exact List.mem_cons_self ..
        · rcases List.mem_cons.1 hp with rfl | hp
          · unfold lessS; simp
          · have e1 := h3 p hp hpc
            have e2 : lessS b q.2 = false := by
              have := hc.2
              unfold lessS at this ⊢
              simp only [Bool.or_eq_true, Bool.and_eq_true, decide_eq_true_eq, Bool.or_eq_false_iff, Bool.and_eq_false_iff, decide_eq_false_iff_not] at this ⊢
              omega
            exact less_trans e2 e1
      · refine .inr ⟨b, List.mem_cons_of_mem _ h1, h2, fun p hp hpc => ?_⟩
        rcases List.mem_cons.1 hp with rfl | hp
        · cases e : lessS p.2 b with
          | false => rfl
          | true => exact absurd ⟨hpc, e⟩ hc
        · exact h3 p hp hpc
theorem chosen_is {s : SS} {n : Need} {lot day : Int} (hk : Keyed s) : Chosen s n lot day (chosen s n lot day) := by
  rcases chosen_some (s := s) (n := n) (lot := lot) (day := day) s.items hk.2 with h | ⟨b, h⟩
  · rw [chosen_eq hk (o := none) h]; exact h
  · rw [chosen_eq hk (o := some b) h]; exact h
/-- add of the store -/
def addF (s : SS) (x : Sheet) (up minW : Int) : SS :=
  if x.width < minW ∨ x.length < s.rules.minLength then { s with waste := s.waste + x.width * x.length }
  else { s with last := s.last + 1, parent := put s.parent (s.last + 1) up, items := put s.items (s.last + 1) { x with id := s.last + 1 } }
def restF (s : SS) (x : Sheet) : SS := if s.rules.minLength ≤ x.length then { s with items := put s.items x.id x } else { s with waste := s.waste + x.width * x.length }
def cutA (s : SS) (b : Sheet) (p : Int) : SS := addF { s with items := del s.items b.id } { b with length := p, faults := partF b.faults 0 p } b.id 1
def cutB (s : SS) (n : Need) (b : Sheet) (p : Int) : SS := addF (cutA s b p) { b with width := b.width - n.width, length := n.length, faults := [] } b.id s.rules.minWidth
def cutC (s : SS) (n : Need) (b : Sheet) (p : Int) : SS := restF (cutB s n b p) { b with length := b.length - (p + n.length), faults := partF b.faults (p + n.length) b.length }
def pieceF (s : SS) (n : Need) (lot : Int) (b : Sheet) : Piece := ⟨s.last + 1, b.root, lot, b.grade, b.colour, n.width, n.length, 0⟩
def cutD (s : SS) (n : Need) (lot : Int) (b : Sheet) : SS := { s with last := s.last + 1, parent := put s.parent (s.last + 1) b.id, pieces := put s.pieces (s.last + 1) (pieceF s n lot b) }
/-- one piece is cut from a lot -/
noncomputable def cutOneF (s : SS) (n : Need) (lot day : Int) : Option (SS × Piece) :=
  match chosen s n lot day with
  | none => none
  | some b => some (cutD (cutC s n b ((clear b.length b.faults n.length).getD 0)) n lot b, pieceF (cutC s n b ((clear b.length b.faults n.length).getD 0)) n lot b)
noncomputable def cutAllF (n : Need) (lot day : Int) : Nat → SS → Option (SS × List Piece)
  | 0, s => some (s, [])
  | k + 1, s => match cutAllF n lot day k s with
    | none => none
    | some (s', l) => match cutOneF s' n lot day with
      | none => none
      | some (s2, p) => some (s2, l ++ [p])
def keysS {V : Type} (M : List (Int × V)) : List Int := (M.map (·.1)).mergeSort fun x y => decide (x ≤ y)
def valsS {V : Type} (M : List (Int × V)) : List V := (keysS M).filterMap (look M)
def itemsL (s : SS) : List Sheet := valsS s.items
def piecesL (s : SS) : List Piece := valsS s.pieces
/-- the lots of a need, the eldest first -/
def madeF (s : SS) (lot : Int) : Int := match look s.lots lot with
  | some k => k.made
  | none => 0
def lotOk (s : SS) (n : Need) (lot : Int) : Bool := match look s.lots lot with
  | some k => decide (k.grade = n.grade) && decide (k.colour = n.colour)
  | none => false
def lotsOfF (s : SS) (n : Need) : List Int := (keysS s.lots).filter (lotOk s n)
noncomputable def lotsF (s : SS) (n : Need) (day : Int) (ls : List Int) : List Int := ls.filter fun lot => (cutAllF n lot day n.count.toNat s).isSome
def scrapF (s : SS) (id : Int) : SS := match look s.items id with
  | some x => { s with items := del s.items id, waste := s.waste + x.width * x.length }
  | none => match look s.pieces id with
    | some p => { s with pieces := del s.pieces id, waste := s.waste + p.width * p.length }
    | none => s
def scrapE (s : SS) (id : Int) : Int := if (look s.items id).isSome || (look s.pieces id).isSome then 0 else 5
def expireF (day : Int) (l : List Sheet) (s : SS) : SS := l.foldl (fun s x => if oldF s.rules x day then scrapF s x.id else s) s
def expireL (r : Shelf) (day : Int) (l : List Sheet) : List Int := (l.filter fun x => oldF r x day).map (·.id)
end Go.Proofs.Ytnejacogflkmmaa

/- Maps as lists of pairs: look-up, store, delete, sums. -/
namespace Go.Proofs.Ytnejacogflkmmaa
section
variable {V : Type} {M : List (Int × V)} {k j : Int} {v u : V}
theorem look_cons (q : Int × V) (M : List (Int × V)) (k : Int) : look (q :: M) k = if q.1 = k then some q.2 else look M k := by
  unfold look
  by_cases h : q.1 = k
  · simp [h]
  · simp [h]
theorem look_none_iff : look M k = none ↔ ∀ q ∈ M, q.1 ≠ k := by
  constructor
  · intro h q hq he
    unfold look at h
    rw [Option.map_eq_none_iff, List.find?_eq_none] at h
    exact h q hq (by simpa using he)
  · exact look_none
theorem look_some_iff (hn : NodupK M) : look M k = some v ↔ (k, v) ∈ M := ⟨mem_of_look, look_mem hn⟩
theorem look_isSome : (look M k).isSome = true ↔ ∃ v, (k, v) ∈ M := by
  constructor
  · intro h
    obtain ⟨v, hv⟩ := Option.isSome_iff_exists.1 h
    exact ⟨v, mem_of_look hv⟩
  · rintro ⟨v, hv⟩
    cases h : look M k with
    | none => exact absurd rfl (look_none_iff.1 h _ hv)
    | some _ => rfl
theorem look_append (M L : List (Int × V)) (k : Int) : look (M ++ L) k = (look M k).or (look L k) := by
  induction M with
  | nil => rfl
  | cons q M ih =>
    rw [List.cons_append, look_cons, look_cons, ih]
    split <;> rfl
theorem look_map_put (M : List (Int × V)) (k j : Int) (v : V) : look (M.map fun p => if p.1 == k then (k, v) else p) j = if j = k then (look M k).map (fun _ => v) else look M j := by
  induction M with
  | nil => unfold look; split <;> rfl
  | cons q M ih =>
    rw [List.map_cons, look_cons, look_cons, look_cons, ih]
    by_cases h1 : q.1 = k
    · by_cases h2 : j = k
      · subst h2; simp [h1]
      · have h2' : ¬ k = j := fun e => h2 e.symm
        subst h1
        simp [h2, h2']
    · by_cases h2 : j = k
      · subst h2; simp [h1]
      · simp [h1, h2]
theorem look_put (M : List (Int × V)) (k j : Int) (v : V) : look (put M k v) j = if j = k then some v else look M j := by
  unfold put
  split
  · rename_i h
    rw [look_map_put]
    split
    · obtain ⟨u, hu⟩ := Option.isSome_iff_exists.1 h
      rw [hu]; rfl
    · rfl
  · rename_i h
    have h' : look M k = none := by simpa using h
    rw [look_append, look_cons]
    by_cases e : j = k
    · subst e; rw [h']; simp
    · have e' : ¬ k = j := fun h => e h.symm
      rw [if_neg e, if_neg e']
      cases look M j <;> rfl
theorem look_put_self (M : List (Int × V)) (k : Int) (v : V) : look (put M k v) k = some v := by rw [look_put, if_pos rfl]
theorem look_put_ne (M : List (Int × V)) {k j : Int} (v : V) (h : j ≠ k) : look (put M k v) j = look M j := by rw [look_put, if_neg h]
theorem look_del (M : List (Int × V)) (k j : Int) : look (del M k) j = if j = k then none else look M j := by
  unfold del
  induction M with
  | nil => unfold look; split <;> rfl
  | cons q M ih =>
    rw [List.filter_cons]
    by_cases h1 : q.1 = k
    · simp only [h1, bne_self_eq_false, Bool.false_eq_true, if_false]
      rw [ih, look_cons, h1]
      by_cases h2 : j = k
      · rw [if_pos h2, if_pos h2]
      · rw [if_neg h2, if_neg h2, if_neg (fun e => h2 e.symm)]
    · simp only [bne_iff_ne, ne_eq, h1, not_false_eq_true, if_true]
      rw [look_cons, look_cons, ih]
      by_cases h2 : j = k
      · subst h2; rw [if_neg h1, if_pos rfl, if_pos rfl]
      · rw [if_neg h2, if_neg h2]
theorem look_del_self (M : List (Int × V)) (k : Int) : look (del M k) k = none := by rw [look_del, if_pos rfl]
theorem look_del_ne (M : List (Int × V)) {k j : Int} (h : j ≠ k) : look (del M k) j = look M j := by rw [look_del, if_neg h]
theorem put_new (h : look M k = none) : put M k v = M ++ [(k, v)] := by unfold put; rw [h]; rfl
theorem nodup_put (hn : NodupK M) : NodupK (put M k v) := by
  unfold put
  split
  · unfold NodupK
    rw [List.map_map]
    rw [show ((fun q : Int × V => q.1) ∘ fun p : Int × V => if p.1 == k then (k, v) else p) = fun q : Int × V => q.1 from by
      funext p
      by_cases h : p.1 = k <;> simp [h]]
    exact hn
  · rename_i h
    have h' : look M k = none := by simpa using h
    unfold NodupK
    rw [List.map_append, List.nodup_append]
    refine ⟨hn, by simp, fun a ha b hb => ?_⟩
    obtain ⟨q, hq, rfl⟩ := List.mem_map.1 ha
    simp only [List.map_cons, List.map_nil, List.mem_singleton] at hb
    subst hb
    exact look_none_iff.1 h' q hq
theorem nodup_del (hn : NodupK M) : NodupK (del M k) := (List.filter_sublist.map _).nodup hn
theorem mem_del {q : Int × V} : q ∈ del M k ↔ q ∈ M ∧ q.1 ≠ k := by unfold del; simp
theorem mem_put {q : Int × V} (h : q ∈ put M k v) : q = (k, v) ∨ (q ∈ M ∧ q.1 ≠ k) := by
  unfold put at h
  split at h
  · obtain ⟨p, hp, rfl⟩ := List.mem_map.1 h
    by_cases e : p.1 = k
    · exact .inl (by simp [e])
    · exact .inr (by simp [e, hp])
  · rename_i hk
    have h' : look M k = none := by simpa using hk
    rcases List.mem_append.1 h with h | h
    · exact .inr ⟨h, look_none_iff.1 h' q h⟩
    · exact .inl (by simpa using h)
/-- a sum over the values -/
def sumM (f : V → Int) (M : List (Int × V)) : Int := (M.map fun q => f q.2).sum
theorem sumM_cons (f : V → Int) (q : Int × V) (M : List (Int × V)) : sumM f (q :: M) = f q.2 + sumM f M := by simp [sumM]
theorem sumM_append (f : V → Int) (M L : List (Int × V)) : sumM f (M ++ L) = sumM f M + sumM f L := by simp [sumM]
theorem sum_put_new (f : V → Int) (h : look M k = none) : sumM f (put M k v) = sumM f M + f v := by
  rw [put_new h, sumM_append]; simp [sumM]
theorem del_none (h : look M k = none) : del M k = M := by
  unfold del
  rw [List.filter_eq_self]
  intro q hq
  simpa using look_none_iff.1 h q hq
theorem sum_del (f : V → Int) (hn : NodupK M) (h : look M k = some v) : sumM f (del M k) = sumM f M - f v := by
  induction M with
  | nil => simp [look] at h
  | cons q M ih =>
    have hn' : NodupK M := (List.nodup_cons.1 hn).2
    rw [look_cons] at h
    by_cases e : q.1 = k
    · rw [if_pos e] at h
      injection h with h
      have hk : look M k = none := look_none_iff.2 fun p hp he => by
        have h1 := (List.nodup_cons.1 hn).1
        exact h1 (List.mem_map.2 ⟨p, hp, by show p.1 = q.1; rw [he, e]⟩)
      have : del (q :: M) k = del M k := by unfold del; simp [e]
      rw [this, del_none hk, sumM_cons, h]; omega
    · rw [if_neg e] at h
      have : del (q :: M) k = q :: del M k := by unfold del; simp [e]
      rw [this, sumM_cons, sumM_cons, ih hn' h]; omega
theorem sum_put_old (f : V → Int) (hn : NodupK M) (h : look M k = some u) : sumM f (put M k v) = sumM f M - f u + f v := by
  have hs : (look M k).isSome = true := by rw [h]; rfl
  unfold put
  rw [if_pos hs]
  clear hs
  induction M with
  | nil => simp [look] at h
  | cons q M ih =>
    have hn' : NodupK M := (List.nodup_cons.1 hn).2
    rw [look_cons] at h
    rw [List.map_cons, sumM_cons, sumM_cons]
    by_cases e : q.1 = k
    · rw [if_pos e] at h
      injection h with h
      have hk : ∀ p ∈ M, p.1 ≠ k := fun p hp he => by
        have h1 := (List.nodup_cons.1 hn).1
        exact h1 (List.mem_map.2 ⟨p, hp, by show p.1 = q.1; rw [he, e]⟩)
      have : (M.map fun p => if p.1 == k then (k, v) else p) = M := by
        rw [List.map_congr_left (g := id)]
        · simp
        · intro p hp; simp [hk p hp]
      rw [this, h]; simp [e]; omega
    · rw [if_neg e] at h
      rw [ih hn' h]; simp [e]; omega
theorem len_put (M : List (Int × V)) (k : Int) (v : V) : (put M k v).length ≤ M.length + 1 := by
  unfold put; split <;> simp
theorem len_del (M : List (Int × V)) (k : Int) : (del M k).length ≤ M.length := List.length_filter_le _ _
theorem del_perm {L : List (Int × V)} (h : M.Perm L) : (del M k).Perm (del L k) := h.filter _
end
section
variable {V : Type} {M : List (Int × V)}
theorem keys_mem {k : Int} : k ∈ keysS M ↔ ∃ v, (k, v) ∈ M := by
  unfold keysS
  rw [List.mem_mergeSort, List.mem_map]
  constructor
  · rintro ⟨⟨a, b⟩, h, rfl⟩; exact ⟨b, h⟩
  · rintro ⟨v, h⟩; exact ⟨(k, v), h, rfl⟩
theorem keys_perm : (keysS M).Perm (M.map (·.1)) := List.mergeSort_perm _ _
theorem keys_sorted : (keysS M).Pairwise (· ≤ ·) := by
  have h := List.pairwise_mergeSort (le := fun x y : Int => decide (x ≤ y)) (fun a b c h1 h2 => by simp at h1 h2 ⊢; omega) (fun a b => by simp; omega) (M.map (·.1))
  unfold keysS
  exact h.imp fun h => by simpa using h
theorem keys_strict (hn : NodupK M) : (keysS M).Pairwise (· < ·) := by
  have h1 : (keysS M).Nodup := keys_perm.symm.nodup hn
  refine (keys_sorted (M := M)).imp₂ ?_ h1
  intro a b h2 h3; omega
theorem keys_len : (keysS M).length = M.length := by rw [keys_perm.length_eq, List.length_map]
/-- the i-th key in order, with its value -/
theorem keys_at (hn : NodupK M) {i : Nat} {k : Int} (h : (keysS M)[i]? = some k) : ∃ v, look M k = some v := by
  obtain ⟨v, hv⟩ := keys_mem.1 (List.mem_of_getElem? h)
  exact ⟨v, look_mem hn hv⟩
theorem vals_take {i : Nat} {k : Int} {v : V} (h : (keysS M)[i]? = some k) (hv : look M k = some v) : ((keysS M).take (i + 1)).filterMap (look M) = ((keysS M).take i).filterMap (look M) ++ [v] := by
  rw [List.take_add_one, h, Option.toList_some, List.filterMap_append]
  simp [hv]
theorem vals_len (hn : NodupK M) : (valsS M).length = M.length := by
  unfold valsS
  rw [← keys_len (M := M)]
  have : ∀ L : List Int, (∀ k ∈ L, ∃ v, look M k = some v) → (L.filterMap (look M)).length = L.length := by
    intro L
    induction L with
    | nil => intro _; rfl
    | cons k L ih =>
      intro h
      obtain ⟨v, hv⟩ := h k (List.mem_cons_self ..)
      rw [List.filterMap_cons, hv]
      simp [ih fun j hj => h j (List.mem_cons_of_mem _ hj)]
  exact this _ fun k hk => by
    obtain ⟨i, hi⟩ := List.getElem?_of_mem hk
    exact keys_at hn hi
theorem vals_mem (hn : NodupK M) {v : V} : v ∈ valsS M ↔ ∃ k, (k, v) ∈ M := by
  unfold valsS
  rw [List.mem_filterMap]
  constructor
  · rintro ⟨k, _, h⟩; exact ⟨k, mem_of_look h⟩
  · rintro ⟨k, h⟩; exact ⟨k, keys_mem.2 ⟨v, h⟩, look_mem hn h⟩
theorem vals_perm (hn : NodupK M) : (valsS M).Perm (M.map (·.2)) := by
  unfold valsS
  have h1 : ((keysS M).filterMap (look M)).Perm ((M.map (·.1)).filterMap (look M)) := keys_perm.filterMap _
  refine h1.trans (List.Perm.of_eq ?_)
  have : ∀ L : List (Int × V), (∀ q ∈ L, q ∈ M) → (L.map (·.1)).filterMap (look M) = L.map (·.2) := by
    intro L
    induction L with
    | nil => intro _; rfl
    | cons q L ih =>
      intro h
      rw [List.map_cons, List.map_cons, List.filterMap_cons, look_mem hn (v := q.2) (h q (List.mem_cons_self ..)), ih fun p hp => h p (List.mem_cons_of_mem _ hp)]
  exact this M fun _ h => h
end
end Go.Proofs.Ytnejacogflkmmaa

/- What holds of every store that a script has filled. -/
namespace Go.Proofs.Ytnejacogflkmmaa
def areaS (x : Sheet) : Int := x.width * x.length
def areaP (p : Piece) : Int := p.width * p.length
structure ItemOk (s : SS) (x : Sheet) : Prop where
  id : 1 ≤ x.id ∧ x.id ≤ s.last
  g : 1 ≤ x.grade ∧ x.grade ≤ 3
  w : 1 ≤ x.width ∧ x.width ≤ 150
  l : 1 ≤ x.length ∧ x.length ≤ 6000
  m : 0 ≤ x.made ∧ x.made ≤ 100000
  f : spansOk x.length 0 x.faults = true
  n : x.faults.length ≤ 16
  k : look s.lots x.lot = some ⟨x.grade, x.colour, x.made⟩
  p : (look s.parent x.id).isSome = true
structure PieceOk (s : SS) (x : Piece) : Prop where
  id : 1 ≤ x.id ∧ x.id ≤ s.last
  w : 1 ≤ x.width ∧ x.width ≤ 150
  l : 1 ≤ x.length ∧ x.length ≤ 6000
  k : ∃ q, look s.lots x.lot = some q ∧ q.grade = x.grade ∧ q.colour = x.colour
  u : 0 ≤ x.use ∧ x.use ≤ 1000000000
  p : (look s.parent x.id).isSome = true
/-- the areas agree but for a debt d -/
structure InvD (d : Int) (s : SS) : Prop where
  ru : validRules s.rules = true
  ki : NodupK s.items
  kp : NodupK s.pieces
  kq : NodupK s.parent
  kl : NodupK s.lots
  it : ∀ k x, look s.items k = some x → x.id = k ∧ ItemOk s x
  pc : ∀ k x, look s.pieces k = some x → x.id = k ∧ PieceOk s x
  di : ∀ k x, look s.items k = some x → look s.pieces k = none
  pa : ∀ k u, look s.parent k = some u → (1 ≤ k ∧ k ≤ s.last) ∧ (u = 0 ∨ (1 ≤ u ∧ u < k ∧ (look s.parent u).isSome = true))
  lo : ∀ k q, look s.lots k = some q → (1 ≤ k ∧ k ≤ 1000000000) ∧ (1 ≤ q.grade ∧ q.grade ≤ 3) ∧ (0 ≤ q.made ∧ q.made ≤ 100000)
  la : 0 ≤ s.last
  ba : s.received = sumM areaS s.items + sumM areaP s.pieces + s.waste + d
  wa : 0 ≤ s.waste
abbrev Inv (s : SS) : Prop := InvD 0 s
/-- what only grows -/
structure Ext (s s' : SS) : Prop where
  ru : s'.rules = s.rules
  la : s.last ≤ s'.last
  lo : ∀ k q, look s.lots k = some q → look s'.lots k = some q
  pa : ∀ k u, look s.parent k = some u → look s'.parent k = some u
theorem Ext.refl (s : SS) : Ext s s := ⟨rfl, Int.le_refl _, fun _ _ h => h, fun _ _ h => h⟩
theorem Ext.trans {a b c : SS} (h : Ext a b) (k : Ext b c) : Ext a c := ⟨k.ru.trans h.ru, Int.le_trans h.la k.la, fun j q hq => k.lo j q (h.lo j q hq), fun j q hq => k.pa j q (h.pa j q hq)⟩
theorem Ext.some {s s' : SS} (h : Ext s s') {k : Int} (hk : (look s.parent k).isSome = true) : (look s'.parent k).isSome = true := by
  obtain ⟨u, hu⟩ := Option.isSome_iff_exists.1 hk
  rw [h.pa _ _ hu]; rfl
theorem ItemOk.ext {s s' : SS} {x : Sheet} (h : ItemOk s x) (e : Ext s s') : ItemOk s' x := ⟨⟨h.id.1, Int.le_trans h.id.2 e.la⟩, h.g, h.w, h.l, h.m, h.f, h.n, e.lo _ _ h.k, e.some h.p⟩
theorem PieceOk.ext {s s' : SS} {x : Piece} (h : PieceOk s x) (e : Ext s s') : PieceOk s' x := by
  obtain ⟨q, h1, h2⟩ := h.k
  exact ⟨⟨h.id.1, Int.le_trans h.id.2 e.la⟩, h.w, h.l, ⟨q, e.lo _ _ h1, h2⟩, h.u, e.some h.p⟩
theorem spans_mono {len : Int} : ∀ {fs : List Pt} {l l' : Int}, spansOk len l fs = true → l' ≤ l → spansOk len l' fs = true
  | [], _, _, _, _ => rfl
  | f :: fs, l, l', h, hl => by
    simp only [spansOk, Bool.and_eq_true, Bool.not_eq_true', Bool.or_eq_false_iff, decide_eq_false_iff_not] at h ⊢
    exact ⟨⟨⟨by omega, h.1.1.2⟩, h.1.2⟩, h.2⟩
theorem spans_part {len a b : Int} : ∀ {fs : List Pt} {l : Int}, spansOk len l fs = true → spansOk (b - a) (imax l a - a) (partF fs a b) = true
  | [], _, _ => rfl
  | f :: fs, l, h => by
    simp only [spansOk, Bool.and_eq_true, Bool.not_eq_true', Bool.or_eq_false_iff, decide_eq_false_iff_not] at h
    have ih := spans_part (a := a) (b := b) h.2
    unfold partF at ih ⊢
    rw [List.map_cons, List.filter_cons]
    split
    · rename_i hk
      rw [decide_eq_true_eq] at hk
      simp only [spansOk, Bool.and_eq_true, Bool.not_eq_true', Bool.or_eq_false_iff, decide_eq_false_iff_not]
      unfold partOf imax imin at hk
      refine ⟨⟨⟨?_, ?_⟩, ?_⟩, spans_mono ih ?_⟩ <;> unfold partOf imax imin <;> dsimp only at hk ⊢ <;> (repeat' split) <;> (repeat' split at hk) <;> omega
    · exact spans_mono ih (by unfold imax; (repeat' split) <;> omega)
theorem part_len (fs : List Pt) (a b : Int) : (partF fs a b).length ≤ fs.length := by
  unfold partF
  exact Nat.le_trans (List.length_filter_le _ _) (by simp)
theorem part_front {len p : Int} {fs : List Pt} (h : spansOk len 0 fs = true) : spansOk p 0 (partF fs 0 p) = true := by
  have := spans_part (a := 0) (b := p) h
  simpa [imax] using this
theorem part_rest {len e : Int} {fs : List Pt} (h : spansOk len 0 fs = true) (he : 0 ≤ e) : spansOk (len - e) 0 (partF fs e len) = true := by
  have := spans_part (a := e) (b := len) h
  refine spans_mono this ?_
  unfold imax; split <;> omega
section
variable {d : Int} {s : SS}
theorem InvD.keyed (h : InvD d s) : Keyed s := ⟨h.ki, fun _ hq => ((h.it _ _ (look_mem h.ki hq)).1).symm⟩
theorem mul_le_mul0 {a b c e : Int} (h1 : 0 ≤ a) (h2 : a ≤ b) (h3 : 0 ≤ c) (h4 : c ≤ e) : 0 ≤ a * c ∧ a * c ≤ b * e := ⟨Int.mul_nonneg h1 h3, Int.mul_le_mul h2 h4 h3 (by omega)⟩
theorem InvD.del_item (h : InvD d s) {k : Int} {x : Sheet} (hx : look s.items k = some x) : InvD (d + areaS x) { s with items := del s.items k } := by
  refine ⟨h.ru, nodup_del h.ki, h.kp, h.kq, h.kl, fun j y hy => ?_, fun j y hy => ⟨(h.pc j y hy).1, (h.pc j y hy).2.ext ⟨rfl, Int.le_refl _, fun _ _ h => h, fun _ _ h => h⟩⟩, fun j y hy => ?_, h.pa, h.lo, h.la, ?_, h.wa⟩
  · rw [look_del] at hy
    split at hy
    · cases hy
    · obtain ⟨h1, h2⟩ := h.it j y hy
      exact ⟨h1, h2.ext ⟨rfl, Int.le_refl _, fun _ _ h => h, fun _ _ h => h⟩⟩
  · rw [look_del] at hy
    split at hy
    · cases hy
    · exact h.di j y hy
  · have := h.ba
    show s.received = sumM areaS (del s.items k) + sumM areaP s.pieces + s.waste + (d + areaS x)
    rw [sum_del areaS h.ki hx]; omega
theorem InvD.del_piece (h : InvD d s) {k : Int} {x : Piece} (hx : look s.pieces k = some x) : InvD (d + areaP x) { s with pieces := del s.pieces k } := by
  refine ⟨h.ru, h.ki, nodup_del h.kp, h.kq, h.kl, fun j y hy => ⟨(h.it j y hy).1, (h.it j y hy).2.ext ⟨rfl, Int.le_refl _, fun _ _ h => h, fun _ _ h => h⟩⟩, fun j y hy => ?_, fun j y hy => ?_, h.pa, h.lo, h.la, ?_, h.wa⟩
  · rw [look_del] at hy
    split at hy
    · cases hy
    · obtain ⟨h1, h2⟩ := h.pc j y hy
      exact ⟨h1, h2.ext ⟨rfl, Int.le_refl _, fun _ _ h => h, fun _ _ h => h⟩⟩
  · show look (del s.pieces k) j = none
    rw [look_del]
    split
    · rfl
    · exact h.di j y hy
  · have := h.ba
    show s.received = sumM areaS s.items + sumM areaP (del s.pieces k) + s.waste + (d + areaP x)
    rw [sum_del areaP h.kp hx]; omega
theorem InvD.waste (h : InvD d s) {a : Int} (ha : 0 ≤ a) : InvD (d - a) { s with waste := s.waste + a } := by
  refine ⟨h.ru, h.ki, h.kp, h.kq, h.kl, fun j y hy => ⟨(h.it j y hy).1, (h.it j y hy).2.ext ⟨rfl, Int.le_refl _, fun _ _ h => h, fun _ _ h => h⟩⟩, fun j y hy => ⟨(h.pc j y hy).1, (h.pc j y hy).2.ext ⟨rfl, Int.le_refl _, fun _ _ h => h, fun _ _ h => h⟩⟩, h.di, h.pa, h.lo, h.la, ?_, ?_⟩
  · have := h.ba
    show s.received = sumM areaS s.items + sumM areaP s.pieces + (s.waste + a) + (d - a)
    omega
  · have := h.wa
    show 0 ≤ s.waste + a
    omega
/-- an item is stored under an Id that neither an item nor a piece has -/
theorem InvD.put_item (h : InvD d s) {k : Int} {x : Sheet} (hk : look s.items k = none) (hp : look s.pieces k = none) (hx : x.id = k) (ho : ItemOk s x) : InvD (d - areaS x) { s with items := put s.items k x } := by
  refine ⟨h.ru, nodup_put h.ki, h.kp, h.kq, h.kl, fun j y hy => ?_, fun j y hy => ⟨(h.pc j y hy).1, (h.pc j y hy).2.ext ⟨rfl, Int.le_refl _, fun _ _ h => h, fun _ _ h => h⟩⟩, fun j y hy => ?_, h.pa, h.lo, h.la, ?_, h.wa⟩
  · rw [look_put] at hy
    split at hy
    · rename_i e
      injection hy with hy
      subst hy
      exact ⟨hx.trans e.symm, ho.ext ⟨rfl, Int.le_refl _, fun _ _ h => h, fun _ _ h => h⟩⟩
    · exact ⟨(h.it j y hy).1, (h.it j y hy).2.ext ⟨rfl, Int.le_refl _, fun _ _ h => h, fun _ _ h => h⟩⟩
  · rw [look_put] at hy
    split at hy
    · rename_i e
      rw [e]; exact hp
    · exact h.di j y hy
  · have := h.ba
    show s.received = sumM areaS (put s.items k x) + sumM areaP s.pieces + s.waste + (d - areaS x)
    rw [sum_put_new areaS hk]; omega
/-- a new Id, that was cut from another -/
theorem InvD.next (h : InvD d s) {up : Int} (hu : (look s.parent up).isSome = true) : InvD d { s with last := s.last + 1, parent := put s.parent (s.last + 1) up } ∧ Ext s { s with last := s.last + 1, parent := put s.parent (s.last + 1) up } ∧ look s.items (s.last + 1) = none ∧ look s.pieces (s.last + 1) = none := by
  have hn : look s.parent (s.last + 1) = none := by
    cases e : look s.parent (s.last + 1) with
    | none => rfl
    | some u => have := (h.pa _ _ e).1.2; omega
  have he : Ext s { s with last := s.last + 1, parent := put s.parent (s.last + 1) up } := ⟨rfl, by show s.last ≤ s.last + 1; omega, fun _ _ h => h, fun j u hj => by
    show look (put s.parent (s.last + 1) up) j = some u
    rw [look_put_ne _ _ (by rintro rfl; rw [hn] at hj; cases hj)]; exact hj⟩
  have hi : look s.items (s.last + 1) = none := by
    cases e : look s.items (s.last + 1) with
    | none => rfl
    | some u => have h1 := h.it _ _ e; have := h1.2.id.2; omega
  have hp : look s.pieces (s.last + 1) = none := by
    cases e : look s.pieces (s.last + 1) with
    | none => rfl
    | some u => have h1 := h.pc _ _ e; have := h1.2.id.2; omega
  refine ⟨⟨h.ru, h.ki, h.kp, nodup_put h.kq, h.kl, fun j y hy => ⟨(h.it j y hy).1, (h.it j y hy).2.ext he⟩, fun j y hy => ⟨(h.pc j y hy).1, (h.pc j y hy).2.ext he⟩, h.di, fun j u hj => ?_, h.lo, by show 0 ≤ s.last + 1; have := h.la; omega, h.ba, h.wa⟩, he, hi, hp⟩
  have hj' : look (put s.parent (s.last + 1) up) j = some u := hj
  show (1 ≤ j ∧ j ≤ s.last + 1) ∧ (u = 0 ∨ (1 ≤ u ∧ u < j ∧ (look (put s.parent (s.last + 1) up) u).isSome = true))
  rw [look_put] at hj'
  split at hj'
  · rename_i e
    injection hj' with hj'
    subst hj'
    obtain ⟨v, hv⟩ := Option.isSome_iff_exists.1 hu
    have h1 := (h.pa _ _ hv).1
    have := h.la
    exact ⟨by omega, .inr ⟨h1.1, by omega, he.some hu⟩⟩
  · have h1 := h.pa j u hj'
    refine ⟨by omega, ?_⟩
    rcases h1.2 with h2 | ⟨h2, h3, h4⟩
    · exact .inl h2
    · exact .inr ⟨h2, h3, he.some h4⟩
/-- what a part of an item is like before it has its Id -/
structure PartOk (s : SS) (x : Sheet) : Prop where
  g : 1 ≤ x.grade ∧ x.grade ≤ 3
  w : 0 ≤ x.width ∧ x.width ≤ 150
  l : 0 ≤ x.length ∧ x.length ≤ 6000
  m : 0 ≤ x.made ∧ x.made ≤ 100000
  f : spansOk x.length 0 x.faults = true
  n : x.faults.length ≤ 16
  k : look s.lots x.lot = some ⟨x.grade, x.colour, x.made⟩
theorem PartOk.ext {s s' : SS} {x : Sheet} (h : PartOk s x) (e : Ext s s') : PartOk s' x := ⟨h.g, h.w, h.l, h.m, h.f, h.n, e.lo _ _ h.k⟩
theorem PartOk.area {x : Sheet} (h : PartOk s x) : 0 ≤ areaS x ∧ areaS x ≤ 900000 := mul_le_mul0 (b := 150) (e := 6000) h.w.1 h.w.2 h.l.1 h.l.2
theorem rules_pos {r : Shelf} (h : validRules r = true) : (1 ≤ r.minWidth ∧ r.minWidth ≤ 1000) ∧ (1 ≤ r.minLength ∧ r.minLength ≤ 1000) ∧ (0 ≤ r.l0 ∧ r.l0 ≤ 100000) ∧ (0 ≤ r.l1 ∧ r.l1 ≤ 100000) ∧ (0 ≤ r.l2 ∧ r.l2 ≤ 100000) := by
  unfold validRules at h
  simp only [Bool.and_eq_true, inB_iff] at h
  omega
theorem InvD.add (h : InvD d s) {x : Sheet} {up minW : Int} (hx : PartOk s x) (hw : 1 ≤ minW) (hu : (look s.parent up).isSome = true) : InvD (d - areaS x) (addF s x up minW) ∧ Ext s (addF s x up minW) := by
  have hr := rules_pos h.ru
  unfold addF
  split
  · exact ⟨h.waste hx.area.1, ⟨rfl, Int.le_refl _, fun _ _ h => h, fun _ _ h => h⟩⟩
  · rename_i hc
    obtain ⟨h1, he, hi, hp⟩ := h.next hu
    have ho : ItemOk { s with last := s.last + 1, parent := put s.parent (s.last + 1) up } { x with id := s.last + 1 } :=
      ⟨⟨by have := h.la; show 1 ≤ s.last + 1; omega, Int.le_refl _⟩, hx.g, ⟨by show 1 ≤ x.width; omega, hx.w.2⟩, ⟨by show 1 ≤ x.length; omega, hx.l.2⟩, hx.m, hx.f, hx.n, hx.k, by show (look (put s.parent (s.last + 1) up) (s.last + 1)).isSome = true; rw [look_put_self]; rfl⟩
    exact ⟨h1.put_item hi hp rfl ho, he.trans ⟨rfl, Int.le_refl _, fun _ _ h => h, fun _ _ h => h⟩⟩
theorem InvD.rest (h : InvD d s) {x : Sheet} (hx : PartOk s x) (hw : 1 ≤ x.width) (hid : 1 ≤ x.id ∧ x.id ≤ s.last) (hp : (look s.parent x.id).isSome = true) (hi : look s.items x.id = none) (hq : look s.pieces x.id = none) : InvD (d - areaS x) (restF s x) ∧ Ext s (restF s x) := by
  have hr := rules_pos h.ru
  unfold restF
  split
  · rename_i hc
    exact ⟨h.put_item hi hq rfl ⟨hid, hx.g, ⟨hw, hx.w.2⟩, ⟨by omega, hx.l.2⟩, hx.m, hx.f, hx.n, hx.k, hp⟩, ⟨rfl, Int.le_refl _, fun _ _ h => h, fun _ _ h => h⟩⟩
  · exact ⟨h.waste hx.area.1, ⟨rfl, Int.le_refl _, fun _ _ h => h, fun _ _ h => h⟩⟩
/-- a new piece -/
theorem InvD.piece (h : InvD d s) {n : Need} {lot : Int} {b : Sheet} (hn : (1 ≤ n.width ∧ n.width ≤ 150) ∧ (1 ≤ n.length ∧ n.length ≤ 6000)) (hk : look s.lots lot = some ⟨b.grade, b.colour, b.made⟩) (hu : (look s.parent b.id).isSome = true) : InvD (d - n.width * n.length) (cutD s n lot b) ∧ Ext s (cutD s n lot b) := by
  obtain ⟨h1, he, hi, hp⟩ := h.next hu
  have ho : PieceOk { s with last := s.last + 1, parent := put s.parent (s.last + 1) b.id } (pieceF s n lot b) :=
    ⟨⟨by have := h.la; show 1 ≤ s.last + 1; omega, Int.le_refl _⟩, hn.1, hn.2, ⟨_, hk, rfl, rfl⟩, ⟨Int.le_refl _, by show (0 : Int) ≤ 1000000000; decide⟩, by show (look (put s.parent (s.last + 1) b.id) (s.last + 1)).isSome = true; rw [look_put_self]; rfl⟩
  have e0 : ∀ s' : SS, Ext s' { s' with pieces := put s'.pieces (s.last + 1) (pieceF s n lot b) } := fun s' => ⟨rfl, Int.le_refl _, fun _ _ h => h, fun _ _ h => h⟩
  refine ⟨⟨h1.ru, h1.ki, nodup_put h1.kp, h1.kq, h1.kl, fun j y hy => ⟨(h1.it j y hy).1, (h1.it j y hy).2.ext (e0 _)⟩, fun j y hy => ?_, fun j y hy => ?_, h1.pa, h1.lo, h1.la, ?_, h1.wa⟩, he.trans (e0 _)⟩
  · have hy' : look (put s.pieces (s.last + 1) (pieceF s n lot b)) j = some y := hy
    rw [look_put] at hy'
    split at hy'
    · rename_i e
      injection hy' with hy'
      subst hy'
      exact ⟨e.symm, ho.ext (e0 _)⟩
    · exact ⟨(h1.pc j y hy').1, (h1.pc j y hy').2.ext (e0 _)⟩
  · have hy' : look s.items j = some y := hy
    show look (put s.pieces (s.last + 1) (pieceF s n lot b)) j = none
    rw [look_put_ne _ _ (by rintro rfl; rw [hi] at hy'; cases hy')]
    exact h.di j y hy'
  · have := h.ba
    show s.received = sumM areaS s.items + sumM areaP (put s.pieces (s.last + 1) (pieceF s n lot b)) + s.waste + (d - n.width * n.length)
    rw [sum_put_new areaP hp]
    have : areaP (pieceF s n lot b) = n.width * n.length := rfl
    omega
theorem add_low {x : Sheet} {up minW : Int} {j : Int} (hj : j ≤ s.last) : look (addF s x up minW).items j = look s.items j ∧ look (addF s x up minW).pieces j = look s.pieces j := by
  unfold addF
  split
  · exact ⟨rfl, rfl⟩
  · exact ⟨look_put_ne _ _ (by omega), rfl⟩
theorem part_ok {x : Sheet} (h : ItemOk s x) {w l : Int} {fs : List Pt} (hw : 0 ≤ w ∧ w ≤ 150) (hl : 0 ≤ l ∧ l ≤ 6000) (hf : spansOk l 0 fs = true) (hn : fs.length ≤ 16) : PartOk s { x with width := w, length := l, faults := fs } := ⟨h.g, hw, hl, h.m, hf, hn, h.k⟩
/-- a need is within its bounds -/
structure NeedOk (n : Need) : Prop where
  g : 1 ≤ n.grade ∧ n.grade ≤ 3
  w : 1 ≤ n.width ∧ n.width ≤ 150
  l : 1 ≤ n.length ∧ n.length ≤ 6000
  c : 1 ≤ n.count ∧ n.count ≤ 50
theorem cut_area (w l p nw nl : Int) : w * p + (w - nw) * nl + w * (l - (p + nl)) + nw * nl = w * l := by
  simp only [Int.mul_sub, Int.mul_add, Int.sub_mul]; omega
theorem clear_bd {l n : Int} {fs : List Pt} {p : Int} (h : clear l fs n = some p) : 1 ≤ n ∧ 0 ≤ p ∧ p ≤ l - n ∧ freeB fs p n = true := by
  unfold clear at h
  split at h
  · rename_i he
    have h1 := he.choose_spec
    rw [h] at h1
    exact ⟨h1.1, h1.2.1, h1.2.2.1, h1.2.2.2.1⟩
  · cases h
/-- one cut keeps the invariant -/
theorem cut_inv (h : Inv s) {n : Need} (hn : NeedOk n) {lot : Int} {b : Sheet} (hb : look s.items b.id = some b) (hl : b.lot = lot) (hw : n.width ≤ b.width) {p : Int} (hp : 0 ≤ p ∧ p ≤ b.length - n.length) :
    Inv (cutD (cutC s n b p) n lot b) ∧ Ext s (cutD (cutC s n b p) n lot b) ∧ Ext s (cutC s n b p) := by
  have hr := rules_pos h.ru
  obtain ⟨-, ho⟩ := h.it _ _ hb
  have hdi := h.di _ _ hb
  have h1 := h.del_item hb
  have e1 : Ext s { s with items := del s.items b.id } := ⟨rfl, Int.le_refl _, fun _ _ h => h, fun _ _ h => h⟩
  have g1 := ho.w
  have g2 := ho.l
  have g3 := hn.w
  have g4 := hn.l
  have p1 : PartOk { s with items := del s.items b.id } { b with length := p, faults := partF b.faults 0 p } := part_ok (ho.ext e1) ⟨by omega, by omega⟩ ⟨hp.1, by omega⟩ (part_front ho.f) (Nat.le_trans (part_len _ _ _) ho.n)
  obtain ⟨h2, e2⟩ := h1.add (minW := 1) p1 (Int.le_refl _) (e1.some ho.p)
  have h2' : InvD _ (cutA s b p) := h2
  have e2' : Ext s (cutA s b p) := e1.trans e2
  have p2 : PartOk (cutA s b p) { b with width := b.width - n.width, length := n.length, faults := [] } := part_ok (ho.ext e2') ⟨by omega, by omega⟩ ⟨by omega, hn.l.2⟩ rfl (by simp)
  obtain ⟨h3, e3⟩ := h2'.add (minW := s.rules.minWidth) p2 hr.1.1 (e2'.some ho.p)
  have h3' : InvD _ (cutB s n b p) := h3
  have e3' : Ext s (cutB s n b p) := e2'.trans e3
  have p3 : PartOk (cutB s n b p) { b with length := b.length - (p + n.length), faults := partF b.faults (p + n.length) b.length } := part_ok (ho.ext e3') ⟨by omega, by omega⟩ ⟨by omega, by omega⟩ (part_rest ho.f (by omega)) (Nat.le_trans (part_len _ _ _) ho.n)
  have la1 : b.id ≤ (cutA s b p).last := Int.le_trans ho.id.2 e2'.la
  have k1 : look (cutB s n b p).items b.id = none := by
    rw [show look (cutB s n b p).items b.id = look (cutA s b p).items b.id from (add_low la1).1]
    rw [show look (cutA s b p).items b.id = look (del s.items b.id) b.id from (add_low (s := { s with items := del s.items b.id }) ho.id.2).1]
    exact look_del_self _ _
  have k2 : look (cutB s n b p).pieces b.id = none := by
    rw [show look (cutB s n b p).pieces b.id = look (cutA s b p).pieces b.id from (add_low la1).2]
    rw [show look (cutA s b p).pieces b.id = look s.pieces b.id from (add_low (s := { s with items := del s.items b.id }) ho.id.2).2]
    exact hdi
  obtain ⟨h4, e4⟩ := h3'.rest p3 (by show 1 ≤ b.width; omega) ⟨ho.id.1, Int.le_trans ho.id.2 e3'.la⟩ (e3'.some ho.p) k1 k2
  have h4' : InvD _ (cutC s n b p) := h4
  have e4' : Ext s (cutC s n b p) := e3'.trans e4
  obtain ⟨h5, e5⟩ := h4'.piece (lot := lot) (b := b) ⟨hn.w, hn.l⟩ (e4'.lo _ _ (hl ▸ ho.k)) (e4'.some ho.p)
  refine ⟨?_, e4'.trans e5, e4'⟩
  have hz : 0 + areaS b - areaS { b with length := p, faults := partF b.faults 0 p } - areaS { b with width := b.width - n.width, length := n.length, faults := [] } - areaS { b with length := b.length - (p + n.length), faults := partF b.faults (p + n.length) b.length } - n.width * n.length = 0 := by
    have := cut_area b.width b.length p n.width n.length
    unfold areaS
    dsimp only
    omega
  have h6 := h5
  rw [hz] at h6
  exact h6
end
end Go.Proofs.Ytnejacogflkmmaa

/- The invariant over the calls of a store. -/
namespace Go.Proofs.Ytnejacogflkmmaa
def useFn (s : SS) (piece what : Int) : SS := match look s.pieces piece with
  | some p => { s with pieces := put s.pieces piece { p with use := what } }
  | none => s
def useE (s : SS) (piece what : Int) : Int := if inB 1 what 1000000000 then match look s.pieces piece with
  | none => 5
  | some p => if p.use = 0 then 0 else 25 else 2
def useS (s : SS) (piece what : Int) : SS := if useE s piece what = 0 then useFn s piece what else s
def backItem (s : SS) (p : Piece) : Sheet := ⟨p.id, p.root, p.grade, p.colour, p.lot, madeF s p.lot, p.width, p.length, []⟩
def backFn (s : SS) (piece : Int) (p : Piece) : SS :=
  if p.width < s.rules.minWidth ∨ p.length < s.rules.minLength then { s with pieces := del s.pieces piece, waste := s.waste + p.width * p.length }
  else { s with pieces := del s.pieces piece, items := put s.items piece (backItem s p) }
def backE (s : SS) (piece : Int) : Int := match look s.pieces piece with
  | none => 5
  | some p => if p.use = 0 then 0 else 25
def backS (s : SS) (piece : Int) : SS := match look s.pieces piece with
  | none => s
  | some p => if p.use = 0 then backFn s piece p else s
def rollItem (r : Roll) : Sheet := ⟨r.id, r.id, r.grade, r.colour, r.lot, r.made, r.width, r.length, r.faults⟩
def recFn (s : SS) (r : Roll) : SS := { s with lots := put s.lots r.lot ⟨r.grade, r.colour, r.made⟩, parent := put s.parent r.id 0, last := imax s.last r.id, items := put s.items r.id (rollItem r), received := s.received + r.width * r.length }
def kinOk (s : SS) (r : Roll) : Bool := match look s.lots r.lot with
  | none => true
  | some k => decide (k.grade = r.grade) && decide (k.colour = r.colour) && decide (k.made = r.made)
def recE (s : SS) (r : Roll) : Int := if validRoll r then (if (look s.parent r.id).isSome then 22 else if kinOk s r then 0 else 23) else 20
def recS (s : SS) (r : Roll) : SS := if recE s r = 0 then recFn s r else s
section
variable {s : SS}
theorem Ext.same {s s' : SS} (h1 : s'.rules = s.rules) (h2 : s'.last = s.last) (h3 : s'.lots = s.lots) (h4 : s'.parent = s.parent) : Ext s s' := ⟨h1, by omega, fun _ _ h => by rw [h3]; exact h, fun _ _ h => by rw [h4]; exact h⟩
theorem scrap_inv (h : Inv s) (id : Int) : Inv (scrapF s id) ∧ Ext s (scrapF s id) := by
  unfold scrapF
  cases hi : look s.items id with
  | some x =>
    have h1 := h.del_item hi
    have ho := (h.it _ _ hi).2
    have ha := mul_le_mul0 (b := 150) (e := 6000) (by have := ho.w; omega) ho.w.2 (by have := ho.l; omega) ho.l.2
    have h2 := h1.waste (a := areaS x) ha.1
    rw [show (0 : Int) + areaS x - areaS x = 0 by omega] at h2
    exact ⟨h2, Ext.same rfl rfl rfl rfl⟩
  | none =>
    cases hp : look s.pieces id with
    | some x =>
      have h1 := h.del_piece hp
      have ho := (h.pc _ _ hp).2
      have ha := mul_le_mul0 (b := 150) (e := 6000) (by have := ho.w; omega) ho.w.2 (by have := ho.l; omega) ho.l.2
      have h2 := h1.waste (a := areaP x) ha.1
      rw [show (0 : Int) + areaP x - areaP x = 0 by omega] at h2
      exact ⟨h2, Ext.same rfl rfl rfl rfl⟩
    | none => exact ⟨h, Ext.refl s⟩
theorem use_inv (h : Inv s) (piece what : Int) : Inv (useS s piece what) ∧ Ext s (useS s piece what) := by
  unfold useS
  split
  case isFalse => exact ⟨h, Ext.refl s⟩
  rename_i he
  unfold useE at he
  split at he
  case isFalse => exact absurd he (by decide)
  rename_i hw
  rw [inB_iff] at hw
  unfold useFn
  cases hp : look s.pieces piece with
  | none => exact ⟨h, Ext.refl s⟩
  | some p =>
    have e0 : Ext s { s with pieces := put s.pieces piece { p with use := what } } := Ext.same rfl rfl rfl rfl
    obtain ⟨h1, ho⟩ := h.pc _ _ hp
    refine ⟨⟨h.ru, h.ki, nodup_put h.kp, h.kq, h.kl, fun j y hy => ⟨(h.it j y hy).1, (h.it j y hy).2.ext e0⟩, fun j y hy => ?_, fun j y hy => ?_, h.pa, h.lo, h.la, ?_, h.wa⟩, e0⟩
    · have hy' : look (put s.pieces piece { p with use := what }) j = some y := hy
      rw [look_put] at hy'
      split at hy'
      · rename_i e
        injection hy' with hy'
        subst hy'
        have h2 := ho.ext e0
        exact ⟨by show p.id = j; omega, ⟨h2.id, h2.w, h2.l, h2.k, ⟨by show 0 ≤ what; omega, hw.2⟩, h2.p⟩⟩
      · exact ⟨(h.pc j y hy').1, (h.pc j y hy').2.ext e0⟩
    · have hy' : look s.items j = some y := hy
      show look (put s.pieces piece { p with use := what }) j = none
      have hd := h.di j y hy'
      rw [look_put_ne _ _ (by rintro rfl; rw [hp] at hd; cases hd)]
      exact hd
    · have := h.ba
      show s.received = sumM areaS s.items + sumM areaP (put s.pieces piece { p with use := what }) + s.waste + 0
      rw [sum_put_old areaP h.kp hp]
      have : areaP { p with use := what } = areaP p := rfl
      omega
theorem back_inv (h : Inv s) (piece : Int) : Inv (backS s piece) ∧ Ext s (backS s piece) := by
  unfold backS
  cases hp : look s.pieces piece with
  | none => exact ⟨h, Ext.refl s⟩
  | some p =>
    dsimp only
    split
    case isFalse => exact ⟨h, Ext.refl s⟩
    obtain ⟨hid, ho⟩ := h.pc _ _ hp
    have h1 := h.del_piece hp
    have e1 : Ext s { s with pieces := del s.pieces piece } := Ext.same rfl rfl rfl rfl
    have ha := mul_le_mul0 (b := 150) (e := 6000) (by have := ho.w; omega) ho.w.2 (by have := ho.l; omega) ho.l.2
    unfold backFn
    split
    · have h2 := h1.waste (a := areaP p) ha.1
      rw [show (0 : Int) + areaP p - areaP p = 0 by omega] at h2
      exact ⟨h2, Ext.same rfl rfl rfl rfl⟩
    · have hr := rules_pos h.ru
      obtain ⟨q, k1, k2, k3⟩ := ho.k
      have hm := (h.lo _ _ k1).2
      have hmade : madeF s p.lot = q.made := by unfold madeF; rw [k1]
      have hi : look s.items piece = none := by
        cases e : look s.items piece with
        | none => rfl
        | some x => rw [h.di _ _ e] at hp; cases hp
      have ho2 : ItemOk { s with pieces := del s.pieces piece } (backItem s p) :=
        ⟨ho.id, by show 1 ≤ p.grade ∧ p.grade ≤ 3; rw [← k2]; exact hm.1, ho.w, ho.l, by show 0 ≤ madeF s p.lot ∧ madeF s p.lot ≤ 100000; rw [hmade]; exact hm.2, rfl, by simp [backItem], by
          show look s.lots p.lot = some ⟨p.grade, p.colour, madeF s p.lot⟩
          rw [k1, hmade, ← k2, ← k3], ho.p⟩
      have h2 := h1.put_item (k := piece) (x := backItem s p) hi (look_del_self _ _) hid ho2
      rw [show (0 : Int) + areaP p - areaS (backItem s p) = 0 by
        show (0 : Int) + p.width * p.length - p.width * p.length = 0; omega] at h2
      exact ⟨h2, Ext.same rfl rfl rfl rfl⟩
theorem roll_bd {r : Roll} (h : validRoll r = true) : (1 ≤ r.id ∧ r.id ≤ 1000000000) ∧ (1 ≤ r.grade ∧ r.grade ≤ 3) ∧ (1 ≤ r.colour ∧ r.colour ≤ 7) ∧ (1 ≤ r.lot ∧ r.lot ≤ 1000000000) ∧ (0 ≤ r.made ∧ r.made ≤ 100000) ∧ (1 ≤ r.width ∧ r.width ≤ 150) ∧ (1 ≤ r.length ∧ r.length ≤ 6000) ∧ r.faults.length ≤ 16 ∧ spansOk r.length 0 r.faults = true := by
  unfold validRoll at h
  simp only [Bool.and_eq_true, inB_iff, decide_eq_true_eq] at h
  obtain ⟨⟨⟨⟨⟨⟨⟨⟨h1, h2⟩, h3⟩, h4⟩, h5⟩, h6⟩, h7⟩, h8⟩, h9⟩ := h
  exact ⟨h1, h2, h3, h4, h5, h6, h7, h8, h9⟩
theorem rec_inv (h : Inv s) (r : Roll) : Inv (recS s r) ∧ Ext s (recS s r) := by
  unfold recS
  split
  case isFalse => exact ⟨h, Ext.refl s⟩
  rename_i he
  unfold recE at he
  split at he
  case isFalse => exact absurd he (by decide)
  rename_i hv
  split at he
  · exact absurd he (by decide)
  rename_i hpar
  split at he
  case isFalse => exact absurd he (by decide)
  rename_i hkin
  obtain ⟨b1, b2, b3, b4, b5, b6, b7, b8, b9⟩ := roll_bd hv
  have hpn : look s.parent r.id = none := by simpa using hpar
  have hla : s.last ≤ imax s.last r.id ∧ r.id ≤ imax s.last r.id := by unfold imax; split <;> omega
  have hlo : ∀ k q, look s.lots k = some q → look (put s.lots r.lot ⟨r.grade, r.colour, r.made⟩) k = some q := fun k q hq => by
    rw [look_put]
    split
    · rename_i e
      subst e
      unfold kinOk at hkin
      rw [hq] at hkin
      simp only [Bool.and_eq_true, decide_eq_true_eq] at hkin
      rw [← hkin.1.1, ← hkin.1.2, ← hkin.2]
    · exact hq
  have e0 : ∀ I rec, Ext s { s with lots := put s.lots r.lot ⟨r.grade, r.colour, r.made⟩, parent := put s.parent r.id 0, last := imax s.last r.id, items := I, received := rec } := fun I rec => ⟨rfl, hla.1, hlo, fun k u hk => by
    show look (put s.parent r.id 0) k = some u
    rw [look_put_ne _ _ (by rintro rfl; rw [hpn] at hk; cases hk)]; exact hk⟩
  have hi : look s.items r.id = none := by
    cases e : look s.items r.id with
    | none => rfl
    | some x =>
      have h1 := h.it _ _ e
      have := h1.2.p
      rw [h1.1, hpn] at this; cases this
  have hp : look s.pieces r.id = none := by
    cases e : look s.pieces r.id with
    | none => rfl
    | some x =>
      have h1 := h.pc _ _ e
      have := h1.2.p
      rw [h1.1, hpn] at this; cases this
  have ho : ItemOk (recFn s r) (rollItem r) := ⟨⟨b1.1, hla.2⟩, b2, b6, b7, b5, b9, b8, by
    show look (put s.lots r.lot ⟨r.grade, r.colour, r.made⟩) r.lot = some _
    rw [look_put_self]; rfl, by
    show (look (put s.parent r.id 0) r.id).isSome = true
    rw [look_put_self]; rfl⟩
  refine ⟨⟨h.ru, nodup_put h.ki, h.kp, nodup_put h.kq, nodup_put h.kl, fun j y hy => ?_, fun j y hy => ⟨(h.pc j y hy).1, (h.pc j y hy).2.ext (e0 _ _)⟩, fun j y hy => ?_, fun j u hj => ?_, fun j q hj => ?_, ?_, ?_, h.wa⟩, e0 _ _⟩
  · have hy' : look (put s.items r.id (rollItem r)) j = some y := hy
    rw [look_put] at hy'
    split at hy'
    · rename_i e
      injection hy' with hy'
      subst hy'
      exact ⟨e.symm, ho⟩
    · exact ⟨(h.it j y hy').1, (h.it j y hy').2.ext (e0 _ _)⟩
  · have hy' : look (put s.items r.id (rollItem r)) j = some y := hy
    rw [look_put] at hy'
    split at hy'
    · rename_i e
      rw [e]; exact hp
    · exact h.di j y hy'
  · have hj' : look (put s.parent r.id 0) j = some u := hj
    show (1 ≤ j ∧ j ≤ imax s.last r.id) ∧ (u = 0 ∨ (1 ≤ u ∧ u < j ∧ (look (put s.parent r.id 0) u).isSome = true))
    rw [look_put] at hj'
    split at hj'
    · rename_i e
      injection hj' with hj'
      exact ⟨by omega, .inl hj'.symm⟩
    · have h1 := h.pa j u hj'
      refine ⟨by omega, ?_⟩
      rcases h1.2 with h2 | ⟨h2, h3, h4⟩
      · exact .inl h2
      · refine .inr ⟨h2, h3, ?_⟩
        rw [look_put_ne _ _ (by rintro rfl; rw [hpn] at h4; cases h4)]; exact h4
  · have hj' : look (put s.lots r.lot ⟨r.grade, r.colour, r.made⟩) j = some q := hj
    rw [look_put] at hj'
    split at hj'
    · rename_i e
      injection hj' with hj'
      subst hj'
      exact ⟨by omega, b2, b5⟩
    · exact h.lo j q hj'
  · show 0 ≤ imax s.last r.id
    have := h.la; omega
  · have := h.ba
    show s.received + r.width * r.length = sumM areaS (put s.items r.id (rollItem r)) + sumM areaP s.pieces + s.waste + 0
    rw [sum_put_new areaS hi]
    have : areaS (rollItem r) = r.width * r.length := rfl
    omega
/-- an empty store -/
theorem new_inv {r : Shelf} (h : validRules r = true) : Inv ⟨r, [], [], [], [], 0, 0, 0⟩ :=
  ⟨h, List.nodup_nil, List.nodup_nil, List.nodup_nil, List.nodup_nil, fun k x hx => (by cases hx), fun k x hx => (by cases hx), fun k x hx => (by cases hx), fun k x hx => (by cases hx), fun k x hx => (by cases hx), Int.le_refl _, rfl, Int.le_refl _⟩
theorem cutOne_inv (h : Inv s) {n : Need} (hn : NeedOk n) {lot day : Int} {s' : SS} {p : Piece} (hc : cutOneF s n lot day = some (s', p)) : Inv s' ∧ Ext s s' := by
  unfold cutOneF at hc
  have hch := chosen_is (n := n) (lot := lot) (day := day) h.keyed
  cases hb : chosen s n lot day with
  | none => rw [hb] at hc; cases hc
  | some b =>
    rw [hb] at hc hch
    injection hc with hc
    injection hc with h1 h2
    obtain ⟨c1, c2, _⟩ := hch
    unfold candF at c2
    simp only [Bool.and_eq_true, decide_eq_true_eq] at c2
    obtain ⟨p0, hp0⟩ := Option.isSome_iff_exists.1 c2.2
    rw [hp0] at h1
    have hbd := clear_bd hp0
    have := cut_inv h hn (look_mem h.ki c1) c2.1.1.1 c2.1.1.2 (p := p0) ⟨hbd.2.1, hbd.2.2.1⟩
    rw [← h1]
    exact ⟨this.1, this.2.1⟩
theorem cutAll_inv {n : Need} (hn : NeedOk n) {lot day : Int} : ∀ {k : Nat} {s s' : SS} {l : List Piece}, Inv s → cutAllF n lot day k s = some (s', l) → Inv s' ∧ Ext s s'
  | 0, s, s', l, h, hc => by
    injection hc with hc
    injection hc with h1 h2
    rw [← h1]; exact ⟨h, Ext.refl s⟩
  | k + 1, s, s', l, h, hc => by
    unfold cutAllF at hc
    cases h1 : cutAllF n lot day k s with
    | none => rw [h1] at hc; cases hc
    | some q =>
      obtain ⟨s1, l1⟩ := q
      rw [h1] at hc
      dsimp only at hc
      obtain ⟨i1, e1⟩ := cutAll_inv hn h h1
      cases h2 : cutOneF s1 n lot day with
      | none => rw [h2] at hc; cases hc
      | some q2 =>
        obtain ⟨s2, p2⟩ := q2
        rw [h2] at hc
        dsimp only at hc
        obtain ⟨i2, e2⟩ := cutOne_inv i1 hn h2
        injection hc with hc
        injection hc with h3 h4
        rw [← h3]; exact ⟨i2, e1.trans e2⟩
end
end Go.Proofs.Ytnejacogflkmmaa

/- Two stores that agree, but for the numbers of new Ids, on the items of which a piece can be cut. -/
namespace Go.Proofs.Ytnejacogflkmmaa
def fid (c e k : Int) : Int := if k ≤ c then k else k + e
theorem fid_lt {c e : Int} (he : 0 ≤ e) {j k : Int} : fid c e j < fid c e k ↔ j < k := by unfold fid; split <;> split <;> omega
theorem fid_inj {c e : Int} (he : 0 ≤ e) {j k : Int} (h : fid c e j = fid c e k) : j = k := by unfold fid at h; split at h <;> split at h <;> omega
def reid (c e : Int) (x : Sheet) : Sheet := { x with id := fid c e x.id }
structure Sim (Q : Int → Int → Int → Prop) (c e : Int) (u v : SS) : Prop where
  ru : v.rules = u.rules
  la : v.last = u.last + e
  lc : c ≤ u.last
  e0 : 0 ≤ e
  to : ∀ x, Q x.lot x.grade x.made → look u.items x.id = some x → look v.items (fid c e x.id) = some (reid c e x)
  fr : ∀ k y, Q y.lot y.grade y.made → look v.items k = some y → ∃ x : Sheet, look u.items x.id = some x ∧ y = reid c e x ∧ k = fid c e x.id
section
variable {Q : Int → Int → Int → Prop} {c e : Int} {u v : SS} {n : Need} {lot day : Int}
theorem cand_reid (r : Shelf) (x : Sheet) : candF r n lot day (reid c e x) = candF r n lot day x := rfl
theorem less_reid (he : 0 ≤ e) (x y : Sheet) : lessS (reid c e x) (reid c e y) = lessS x y := by
  unfold lessS reid
  dsimp only
  rw [show decide (fid c e x.id < fid c e y.id) = decide (x.id < y.id) from decide_eq_decide.2 (fid_lt he)]
theorem sim_chosen (h : Sim Q c e u v) (hu : Keyed u) (hv : Keyed v) (hc : ∀ x, candF u.rules n lot day x = true → Q x.lot x.grade x.made) : chosen v n lot day = (chosen u n lot day).map (reid c e) := by
  refine chosen_eq hv ?_
  have hch := chosen_is (n := n) (lot := lot) (day := day) hu
  cases hb : chosen u n lot day with
  | none =>
    rw [hb] at hch
    intro q hq
    cases hcq : candF v.rules n lot day q.2 with
    | false => rfl
    | true =>
      rw [h.ru] at hcq
      obtain ⟨x, h1, h2, h3⟩ := h.fr _ _ (hc _ hcq) (look_mem hv.1 hq)
      rw [h2, cand_reid, hch _ (mem_of_look h1)] at hcq
      cases hcq
  | some b =>
    rw [hb] at hch
    obtain ⟨c1, c2, c3⟩ := hch
    refine ⟨mem_of_look (h.to b (hc _ c2) (look_mem hu.1 c1)), by rw [h.ru, cand_reid]; exact c2, fun q hq hcq => ?_⟩
    rw [h.ru] at hcq
    obtain ⟨x, h1, h2, h3⟩ := h.fr _ _ (hc _ hcq) (look_mem hv.1 hq)
    rw [h2, less_reid h.e0]
    exact c3 _ (mem_of_look h1) (by rw [h2, cand_reid] at hcq; exact hcq)
theorem sim_del (h : Sim Q c e u v) (k : Int) : Sim Q c e { u with items := del u.items k } { v with items := del v.items (fid c e k) } := by
  refine ⟨h.ru, h.la, h.lc, h.e0, fun x hx hk => ?_, fun j y hy hj => ?_⟩
  · have hk' : look (del u.items k) x.id = some x := hk
    show look (del v.items (fid c e k)) (fid c e x.id) = some (reid c e x)
    rw [look_del] at hk' ⊢
    split at hk'
    · cases hk'
    · rename_i hne
      rw [if_neg (fun he => hne (fid_inj h.e0 he))]
      exact h.to x hx hk'
  · have hj' : look (del v.items (fid c e k)) j = some y := hj
    rw [look_del] at hj'
    split at hj'
    · cases hj'
    · rename_i hne
      obtain ⟨x, h1, h2, h3⟩ := h.fr j y hy hj'
      refine ⟨x, ?_, h2, h3⟩
      show look (del u.items k) x.id = some x
      rw [look_del, if_neg (by rintro rfl; exact hne h3)]
      exact h1
theorem sim_put (h : Sim Q c e u v) (x : Sheet) : Sim Q c e { u with items := put u.items x.id x } { v with items := put v.items (fid c e x.id) (reid c e x) } := by
  refine ⟨h.ru, h.la, h.lc, h.e0, fun y hy hk => ?_, fun j y hy hj => ?_⟩
  · have hk' : look (put u.items x.id x) y.id = some y := hk
    show look (put v.items (fid c e x.id) (reid c e x)) (fid c e y.id) = some (reid c e y)
    rw [look_put] at hk' ⊢
    split at hk'
    · rename_i e1
      injection hk' with hk'
      subst hk'
      rw [if_pos rfl]
    · rename_i hne
      rw [if_neg (fun he => hne (fid_inj h.e0 he))]
      exact h.to y hy hk'
  · have hj' : look (put v.items (fid c e x.id) (reid c e x)) j = some y := hj
    rw [look_put] at hj'
    split at hj'
    · rename_i e1
      injection hj' with hj'
      exact ⟨x, look_put_self _ _ _, hj'.symm, e1⟩
    · rename_i hne
      obtain ⟨z, h1, h2, h3⟩ := h.fr j y hy hj'
      refine ⟨z, ?_, h2, h3⟩
      show look (put u.items x.id x) z.id = some z
      rw [look_put_ne _ _ (by intro e1; rw [e1] at h3; exact hne h3)]
      exact h1
theorem Sim.of_items (h : Sim Q c e u v) {u' v' : SS} (h1 : u'.rules = u.rules) (h2 : v'.rules = v.rules) (h3 : u'.last = u.last) (h4 : v'.last = v.last) (h5 : u'.items = u.items) (h6 : v'.items = v.items) : Sim Q c e u' v' :=
  ⟨by rw [h1, h2]; exact h.ru, by rw [h3, h4]; exact h.la, by rw [h3]; exact h.lc, h.e0, by rw [h5, h6]; exact h.to, by rw [h5, h6]; exact h.fr⟩
theorem Sim.more (h : Sim Q c e u v) (a b : Int) : Sim Q c e { u with last := u.last + 1, parent := put u.parent (u.last + 1) a } { v with last := v.last + 1, parent := put v.parent (v.last + 1) b } :=
  ⟨h.ru, by show v.last + 1 = u.last + 1 + e; have := h.la; omega, by show c ≤ u.last + 1; have := h.lc; omega, h.e0, h.to, h.fr⟩
theorem Sim.next (h : Sim Q c e u v) : fid c e (u.last + 1) = v.last + 1 := by
  have := h.la; have := h.lc
  unfold fid; rw [if_neg (by omega)]; omega
theorem sim_add (h : Sim Q c e u v) (x : Sheet) {a b w i : Int} : Sim Q c e (addF u x a w) (addF v { x with id := i } b w) := by
  unfold addF
  by_cases hc : x.width < w ∨ x.length < u.rules.minLength
  · have hc' : x.width < w ∨ x.length < v.rules.minLength := by rw [h.ru]; exact hc
    rw [if_pos hc, if_pos hc']
    exact h.of_items rfl rfl rfl rfl rfl rfl
  · have hc' : ¬ (x.width < w ∨ x.length < v.rules.minLength) := by rw [h.ru]; exact hc
    rw [if_neg hc, if_neg hc']
    have h1 := sim_put (h.more a b) { x with id := u.last + 1 }
    have e3 : fid c e (u.last + 1) = v.last + 1 := h.next
    have e4 : reid c e { x with id := u.last + 1 } = { x with id := v.last + 1 } := by
      unfold reid
      dsimp only
      rw [e3]
    rw [e4] at h1
    have h2 : Sim Q c e { u with last := u.last + 1, parent := put u.parent (u.last + 1) a, items := put u.items (u.last + 1) { x with id := u.last + 1 } } { v with last := v.last + 1, parent := put v.parent (v.last + 1) b, items := put v.items (fid c e (u.last + 1)) { x with id := v.last + 1 } } := h1
    rw [e3] at h2
    exact h2
theorem sim_rest (h : Sim Q c e u v) (x : Sheet) : Sim Q c e (restF u x) (restF v (reid c e x)) := by
  unfold restF
  by_cases hc : u.rules.minLength ≤ x.length
  · have hc' : v.rules.minLength ≤ (reid c e x).length := by rw [h.ru]; exact hc
    rw [if_pos hc, if_pos hc']
    exact sim_put h x
  · have hc' : ¬ v.rules.minLength ≤ (reid c e x).length := by rw [h.ru]; exact hc
    rw [if_neg hc, if_neg hc']
    exact h.of_items rfl rfl rfl rfl rfl rfl
theorem add_rules (s : SS) (x : Sheet) (a w : Int) : (addF s x a w).rules = s.rules := by unfold addF; split <;> rfl
theorem sim_cut (h : Sim Q c e u v) (b : Sheet) (p : Int) : Sim Q c e (cutD (cutC u n b p) n lot b) (cutD (cutC v n (reid c e b) p) n lot (reid c e b)) := by
  have h1 : Sim Q c e (cutA u b p) (cutA v (reid c e b) p) := sim_add (sim_del h b.id) { b with length := p, faults := partF b.faults 0 p }
  have h2 : Sim Q c e (cutB u n b p) (cutB v n (reid c e b) p) := by
    unfold cutB
    rw [show v.rules.minWidth = u.rules.minWidth by rw [h.ru]]
    exact sim_add h1 { b with width := b.width - n.width, length := n.length, faults := [] }
  have h3 : Sim Q c e (cutC u n b p) (cutC v n (reid c e b) p) := sim_rest h2 { b with length := b.length - (p + n.length), faults := partF b.faults (p + n.length) b.length }
  exact (h3.more b.id (reid c e b).id).of_items rfl rfl rfl rfl rfl rfl
theorem sim_one (h : Sim Q c e u v) (hu : Keyed u) (hv : Keyed v) (hc : ∀ x, candF u.rules n lot day x = true → Q x.lot x.grade x.made) :
    (cutOneF u n lot day = none ∧ cutOneF v n lot day = none) ∨ ∃ u' v' p q, cutOneF u n lot day = some (u', p) ∧ cutOneF v n lot day = some (v', q) ∧ Sim Q c e u' v' := by
  have hch := sim_chosen h hu hv hc
  unfold cutOneF
  rw [hch]
  cases hb : chosen u n lot day with
  | none => exact .inl ⟨rfl, rfl⟩
  | some b =>
    exact .inr ⟨_, _, _, _, rfl, rfl, sim_cut h _ _⟩
theorem sim_all (hn : NeedOk n) : ∀ {k : Nat} {u v : SS}, Sim Q c e u v → Inv u → Inv v → (∀ x, candF u.rules n lot day x = true → Q x.lot x.grade x.made) →
    (cutAllF n lot day k u = none ∧ cutAllF n lot day k v = none) ∨ ∃ u' v' p q, cutAllF n lot day k u = some (u', p) ∧ cutAllF n lot day k v = some (v', q) ∧ Sim Q c e u' v'
  | 0, u, v, h, _, _, _ => .inr ⟨u, v, [], [], rfl, rfl, h⟩
  | k + 1, u, v, h, hu, hv, hc => by
    rcases sim_all hn (k := k) h hu hv hc with ⟨h1, h2⟩ | ⟨u1, v1, p1, q1, h1, h2, h3⟩
    · exact .inl ⟨by unfold cutAllF; rw [h1], by unfold cutAllF; rw [h2]⟩
    · obtain ⟨iu, eu⟩ := cutAll_inv hn hu h1
      obtain ⟨iv, ev⟩ := cutAll_inv hn hv h2
      rcases sim_one (n := n) (lot := lot) (day := day) h3 iu.keyed iv.keyed (fun x hx => hc x (by rw [← eu.ru]; exact hx)) with ⟨g1, g2⟩ | ⟨u2, v2, p2, q2, g1, g2, g3⟩
      · exact .inl ⟨by unfold cutAllF; rw [h1]; dsimp only; rw [g1], by unfold cutAllF; rw [h2]; dsimp only; rw [g2]⟩
      · exact .inr ⟨u2, v2, p1 ++ [p2], q1 ++ [q2], by unfold cutAllF; rw [h1]; dsimp only; rw [g1], by unfold cutAllF; rw [h2]; dsimp only; rw [g2], g3⟩
theorem sim_some (hn : NeedOk n) {k : Nat} (h : Sim Q c e u v) (hu : Inv u) (hv : Inv v) (hc : ∀ x, candF u.rules n lot day x = true → Q x.lot x.grade x.made) : (cutAllF n lot day k v).isSome = (cutAllF n lot day k u).isSome := by
  rcases sim_all hn (k := k) h hu hv hc with ⟨h1, h2⟩ | ⟨u1, v1, p1, q1, h1, h2, h3⟩ <;> rw [h1, h2] <;> rfl
end
/-- what a cut from a lot does to the items of another one: nothing -/
structure Off (lot : Int) (s s' : SS) : Prop where
  it : ∀ k x, x.lot ≠ lot → (look s'.items k = some x ↔ look s.items k = some x)
theorem off_refl (lot : Int) (s : SS) : Off lot s s := ⟨fun _ _ _ => Iff.rfl⟩
theorem Off.trans {lot : Int} {a b c : SS} (h : Off lot a b) (k : Off lot b c) : Off lot a c := ⟨fun j x hx => (k.it j x hx).trans (h.it j x hx)⟩
theorem off_put {lot : Int} {s : SS} {k : Int} {x : Sheet} (hx : x.lot = lot) (hk : ∀ y, look s.items k = some y → y.lot = lot) : Off lot s { s with items := put s.items k x } := ⟨fun j y hy => by
  show look (put s.items k x) j = some y ↔ _
  rw [look_put]
  split
  · rename_i e
    subst e
    constructor
    · intro h; injection h with h; subst h; exact absurd hx hy
    · intro h; exact absurd (hk y h) hy
  · exact Iff.rfl⟩
theorem off_del {lot : Int} {s : SS} {k : Int} (hk : ∀ y, look s.items k = some y → y.lot = lot) : Off lot s { s with items := del s.items k } := ⟨fun j y hy => by
  show look (del s.items k) j = some y ↔ _
  rw [look_del]
  split
  · rename_i e
    subst e
    constructor
    · intro h; cases h
    · intro h; exact absurd (hk y h) hy
  · exact Iff.rfl⟩
theorem off_items {lot : Int} {s s' : SS} (h : s'.items = s.items) : Off lot s s' := ⟨fun _ _ _ => by rw [h]⟩
theorem off_add {lot : Int} {s : SS} {x : Sheet} {a w : Int} (hx : x.lot = lot) (hk : look s.items (s.last + 1) = none) : Off lot s (addF s x a w) := by
  unfold addF
  split
  · exact off_items rfl
  · have h1 : Off lot s { s with last := s.last + 1, parent := put s.parent (s.last + 1) a } := off_items rfl
    refine h1.trans (off_put (s := { s with last := s.last + 1, parent := put s.parent (s.last + 1) a }) (k := s.last + 1) (x := { x with id := s.last + 1 }) hx fun y hy => ?_)
    have hy' : look s.items (s.last + 1) = some y := hy
    rw [hk] at hy'; cases hy'
theorem off_rest {lot : Int} {s : SS} {x : Sheet} (hx : x.lot = lot) (hk : look s.items x.id = none) : Off lot s (restF s x) := by
  unfold restF
  split
  · exact off_put hx fun y hy => by rw [hk] at hy; cases hy
  · exact off_items rfl
theorem off_one {s s' : SS} (h : Inv s) {n : Need} (hn : NeedOk n) {lot day : Int} {p : Piece} (hc : cutOneF s n lot day = some (s', p)) : Off lot s s' := by
  unfold cutOneF at hc
  have hch := chosen_is (n := n) (lot := lot) (day := day) h.keyed
  cases hb : chosen s n lot day with
  | none => rw [hb] at hc; cases hc
  | some b =>
    rw [hb] at hc hch
    injection hc with hc
    injection hc with h1 h2
    obtain ⟨c1, c2, _⟩ := hch
    unfold candF at c2
    simp only [Bool.and_eq_true, decide_eq_true_eq] at c2
    obtain ⟨p0, hp0⟩ := Option.isSome_iff_exists.1 c2.2
    rw [hp0] at h1
    have hbd := clear_bd hp0
    have hlb := look_mem h.ki c1
    have hl : b.lot = lot := c2.1.1.1
    have hr := rules_pos h.ru
    obtain ⟨-, ho⟩ := h.it _ _ hlb
    have i1 := h.del_item hlb
    have e1 : Ext s { s with items := del s.items b.id } := Ext.same rfl rfl rfl rfl
    have g1 := ho.w
    have g2 := ho.l
    have g3 := hn.w
    have g4 := hn.l
    have q1 : PartOk { s with items := del s.items b.id } { b with length := p0, faults := partF b.faults 0 p0 } := part_ok (ho.ext e1) ⟨by omega, by omega⟩ ⟨hbd.2.1, by omega⟩ (part_front ho.f) (Nat.le_trans (part_len _ _ _) ho.n)
    obtain ⟨i2, e2⟩ := i1.add (minW := 1) q1 (Int.le_refl _) (e1.some ho.p)
    have i2' : InvD _ (cutA s b p0) := i2
    have e2' : Ext s (cutA s b p0) := e1.trans e2
    have fresh : ∀ {d : Int} {t : SS}, InvD d t → look t.items (t.last + 1) = none := fun {d t} ht => by
      cases e : look t.items (t.last + 1) with
      | none => rfl
      | some u => have h1 := ht.it _ _ e; have := h1.2.id.2; omega
    have o1 : Off lot s { s with items := del s.items b.id } := off_del fun y hy => by rw [hlb] at hy; injection hy with hy; rw [← hy]; exact hl
    have o2 : Off lot { s with items := del s.items b.id } (cutA s b p0) := off_add (x := { b with length := p0, faults := partF b.faults 0 p0 }) hl (fresh i1)
    have o3 : Off lot (cutA s b p0) (cutB s n b p0) := off_add (x := { b with width := b.width - n.width, length := n.length, faults := [] }) hl (fresh i2')
    have la1 : b.id ≤ (cutA s b p0).last := Int.le_trans ho.id.2 e2'.la
    have k1 : look (cutB s n b p0).items b.id = none := by
      rw [show look (cutB s n b p0).items b.id = look (cutA s b p0).items b.id from (add_low la1).1]
      rw [show look (cutA s b p0).items b.id = look (del s.items b.id) b.id from (add_low (s := { s with items := del s.items b.id }) ho.id.2).1]
      exact look_del_self _ _
    have o4 : Off lot (cutB s n b p0) (cutC s n b p0) := off_rest (x := { b with length := b.length - (p0 + n.length), faults := partF b.faults (p0 + n.length) b.length }) hl k1
    rw [← h1]
    exact ((o1.trans o2).trans o3).trans (o4.trans (off_items rfl))
theorem off_all {n : Need} (hn : NeedOk n) {lot day : Int} : ∀ {k : Nat} {s s' : SS} {l : List Piece}, Inv s → cutAllF n lot day k s = some (s', l) → Off lot s s'
  | 0, s, s', l, h, hc => by
    injection hc with hc
    injection hc with h1 h2
    rw [← h1]; exact off_refl _ _
  | k + 1, s, s', l, h, hc => by
    unfold cutAllF at hc
    cases h1 : cutAllF n lot day k s with
    | none => rw [h1] at hc; cases hc
    | some q =>
      obtain ⟨s1, l1⟩ := q
      rw [h1] at hc
      dsimp only at hc
      obtain ⟨i1, e1⟩ := cutAll_inv hn h h1
      cases h2 : cutOneF s1 n lot day with
      | none => rw [h2] at hc; cases hc
      | some q2 =>
        obtain ⟨s2, p2⟩ := q2
        rw [h2] at hc
        dsimp only at hc
        injection hc with hc
        injection hc with h3 h4
        rw [← h3]; exact (off_all hn h h1).trans (off_one i1 hn h2)
/-- what a Take has left: another lot has enough only if it had enough before -/
theorem take_left {s s' : SS} (h : Inv s) {n : Need} (hn : NeedOk n) {a lot day : Int} {l : List Piece} {k j : Nat} (hc : cutAllF n a day k s = some (s', l)) (hne : lot ≠ a) : (cutAllF n lot day j s').isSome = (cutAllF n lot day j s).isSome := by
  obtain ⟨i1, e1⟩ := cutAll_inv hn h hc
  have ho := off_all hn h hc
  refine sim_some (Q := fun l _ _ => l = lot) (c := s.last) (e := s'.last - s.last) hn ⟨e1.ru, by omega, Int.le_refl _, by have := e1.la; omega, fun x hx hk => ?_, fun j y hy hj => ?_⟩ h i1 (fun x hx => ?_)
  · obtain ⟨h1, h2⟩ := h.it _ _ hk
    have h3 : fid s.last (s'.last - s.last) x.id = x.id := by unfold fid; rw [if_pos h2.id.2]
    rw [h3, (ho.it _ _ (by rw [hx]; exact hne)).2 hk]
    unfold reid
    rw [h3]
  · have h1 := (ho.it j y (by rw [hy]; exact hne)).1 hj
    obtain ⟨h2, h4⟩ := h.it _ _ h1
    have h3 : fid s.last (s'.last - s.last) y.id = y.id := by unfold fid; rw [if_pos h4.id.2]
    exact ⟨y, by rw [h2]; exact h1, by unfold reid; rw [h3], by rw [h3]; exact h2.symm⟩
  · unfold candF at hx
    simp only [Bool.and_eq_true, decide_eq_true_eq] at hx
    exact hx.1.1.1
/-- without items that are too old on a day, a need of that day finds the same -/
theorem expire_same {s t : SS} (hs : Inv s) (ht : Inv t) {n : Need} (hn : NeedOk n) {lot day : Int} {k : Nat} (hr : t.rules = s.rules) (hl : t.last = s.last) (hi : ∀ j x, look t.items j = some x → look s.items j = some x) (hu : ∀ j x, look s.items j = some x → useF s.rules x day = true → look t.items j = some x) : (cutAllF n lot day k t).isSome = (cutAllF n lot day k s).isSome := by
  have fz : ∀ x : Int, fid s.last 0 x = x := fun x => by unfold fid; split <;> omega
  refine sim_some (Q := fun _ g m => (decide (m ≤ day) && !decide (lifeF s.rules g < day - m)) = true) (c := s.last) (e := 0) hn ⟨hr, by omega, Int.le_refl _, Int.le_refl _, fun x hx hk => ?_, fun j y hy hj => ?_⟩ hs ht (fun x hx => ?_)
  · rw [fz]
    unfold reid
    rw [fz]
    exact hu _ _ hk hx
  · have h1 := hi _ _ hj
    have h2 := (hs.it _ _ h1).1
    exact ⟨y, by rw [h2]; exact h1, by unfold reid; rw [fz], by rw [fz]; exact h2.symm⟩
  · unfold candF at hx
    simp only [Bool.and_eq_true] at hx
    exact hx.1.2
end Go.Proofs.Ytnejacogflkmmaa

/- Expire and Recall, plain; lists in the order of a number. -/
namespace Go.Proofs.Ytnejacogflkmmaa
/-- an element put ahead of the first that is greater -/
def insG {α : Type} (gt : α → Bool) (x : α) : List α → List α
  | [] => [x]
  | y :: l => if gt y then x :: y :: l else y :: insG gt x l
section
variable {α : Type} {gt : α → Bool} {x : α}
theorem insG_no {l : List α} (h : l.any gt = false) : insG gt x l = l ++ [x] := by
  induction l with
  | nil => rfl
  | cons y l ih =>
    rw [List.any_cons, Bool.or_eq_false_iff] at h
    unfold insG
    rw [h.1, if_neg (by decide), ih h.2]; rfl
theorem insG_yes {l : List α} (h : l.any gt = true) (m : List α) : insG gt x (l ++ m) = insG gt x l ++ m := by
  induction l with
  | nil => cases h
  | cons y l ih =>
    rw [List.any_cons, Bool.or_eq_true] at h
    rw [List.cons_append]
    unfold insG
    by_cases hy : gt y = true
    · rw [if_pos hy, if_pos hy]; rfl
    · rw [if_neg hy, if_neg hy, ih (h.resolve_left hy)]; rfl
/-- what the loop has made of the first elements -/
def insAt (gt : α → Bool) (x : α) (l : List α) : List α := if l.any gt then insG gt x l else l
theorem insAt_nil : insAt gt x [] = [] := rfl
theorem insAt_here {l : List α} {y : α} (h : l.any gt = false) (hy : gt y = true) : insAt gt x (l ++ [y]) = l ++ [x] ++ [y] := by
  unfold insAt
  rw [if_pos (by simp [hy])]
  have : ∀ l : List α, l.any gt = false → insG gt x (l ++ [y]) = l ++ [x] ++ [y] := by
    intro l
    induction l with
    | nil => intro _; simp [insG, hy]
    | cons z l ih =>
      intro h
      rw [List.any_cons, Bool.or_eq_false_iff] at h
      rw [List.cons_append]
      unfold insG
      rw [h.1, if_neg (by decide), ih h.2]; simp
  exact this l h
theorem insAt_skip {l : List α} {y : α} (h : l.any gt = false) (hy : gt y = false) : insAt gt x (l ++ [y]) = l ++ [y] := by
  unfold insAt
  rw [if_neg (by rw [List.any_append, h]; simp [hy])]
theorem insAt_on {l : List α} {y : α} (h : l.any gt = true) : insAt gt x (l ++ [y]) = insAt gt x l ++ [y] := by
  unfold insAt
  rw [if_pos (by rw [List.any_append, h]; rfl), if_pos h, insG_yes h]
theorem insAt_end {l : List α} : (if l.any gt then insAt gt x l else insAt gt x l ++ [x]) = insG gt x l := by
  unfold insAt
  cases h : l.any gt with
  | true => rw [if_pos rfl, if_pos rfl]
  | false => rw [if_neg (by decide), if_neg (by decide), insG_no h]
theorem insG_mem {l : List α} {z : α} : z ∈ insG gt x l ↔ z = x ∨ z ∈ l := by
  induction l with
  | nil => simp [insG]
  | cons y l ih =>
    unfold insG
    split
    · simp
    · rw [List.mem_cons, ih, List.mem_cons]
      constructor
      · rintro (h | h | h) <;> simp [h]
      · rintro (h | h | h) <;> simp [h]
theorem insG_len (l : List α) : (insG gt x l).length = l.length + 1 := by
  induction l with
  | nil => rfl
  | cons y l ih => unfold insG; split <;> simp [ih]
theorem insG_sorted {key : α → Int} (hg : ∀ y, gt y = decide (key x < key y)) {l : List α} (h : l.Pairwise fun a b => key a < key b) (hx : ∀ y ∈ l, key y ≠ key x) : (insG gt x l).Pairwise fun a b => key a < key b := by
  induction l with
  | nil => simp [insG]
  | cons y l ih =>
    rw [List.pairwise_cons] at h
    unfold insG
    split
    · rename_i hy
      rw [hg, decide_eq_true_eq] at hy
      rw [List.pairwise_cons, List.pairwise_cons]
      refine ⟨fun z hz => ?_, h⟩
      rcases List.mem_cons.1 hz with rfl | hz
      · exact hy
      · have := h.1 z hz; omega
    · rename_i hy
      rw [hg, decide_eq_true_eq] at hy
      rw [List.pairwise_cons]
      refine ⟨fun z hz => ?_, ih h.2 fun z hz => hx z (List.mem_cons_of_mem _ hz)⟩
      rcases insG_mem.1 hz with rfl | hz
      · have := hx y (List.mem_cons_self ..); omega
      · exact h.1 z hz
end
/-- lists in the order of a number that have the same elements are the same -/
theorem sorted_unique {α : Type} {key : α → Int} : ∀ {l m : List α}, l.Pairwise (fun a b => key a < key b) → m.Pairwise (fun a b => key a < key b) → (∀ x, x ∈ l ↔ x ∈ m) → l = m
  | [], [], _, _, _ => rfl
  | [], y :: m, _, _, h => absurd ((h y).2 (List.mem_cons_self ..)) (by simp)
  | x :: l, [], _, _, h => absurd ((h x).1 (List.mem_cons_self ..)) (by simp)
  | x :: l, y :: m, h1, h2, h => by
    rw [List.pairwise_cons] at h1 h2
    have hxy : x = y := by
      rcases List.mem_cons.1 ((h x).1 (List.mem_cons_self ..)) with e | e
      · exact e
      · rcases List.mem_cons.1 ((h y).2 (List.mem_cons_self ..)) with e' | e'
        · exact e'.symm
        · have a := h2.1 x e
          have b := h1.1 y e'
          omega
    subst hxy
    rw [sorted_unique h1.2 h2.2 fun z => ?_]
    constructor
    · intro hz
      rcases List.mem_cons.1 ((h z).1 (List.mem_cons_of_mem _ hz)) with rfl | e
      · exact absurd (h1.1 z hz) (by omega)
      · exact e
    · intro hz
      rcases List.mem_cons.1 ((h z).2 (List.mem_cons_of_mem _ hz)) with rfl | e
      · exact absurd (h2.1 z hz) (by omega)
      · exact e
/-- a list shows a map whose keys are numbers of its elements -/
structure Shows {V : Type} (key : V → Int) (l : List V) (M : List (Int × V)) : Prop where
  s : l.Pairwise fun a b => key a < key b
  m : ∀ x, x ∈ l ↔ look M (key x) = some x
theorem vals_shows {V : Type} {key : V → Int} {M : List (Int × V)} (hn : NodupK M) (hk : ∀ k x, look M k = some x → key x = k) : Shows key (valsS M) M := by
  refine ⟨?_, fun x => ?_⟩
  · unfold valsS
    rw [List.pairwise_filterMap]
    refine (keys_strict hn).imp fun {a b} hab x hx y hy => ?_
    rw [hk _ _ hx, hk _ _ hy]; exact hab
  · rw [vals_mem hn]
    constructor
    · rintro ⟨k, h⟩
      have h' := look_mem hn h
      rw [hk _ _ h']; exact h'
    · intro h; exact ⟨_, mem_of_look h⟩
theorem Shows.eq {V : Type} {key : V → Int} {l m : List V} {M : List (Int × V)} (h : Shows key l M) (k : Shows key m M) : l = m := sorted_unique h.s k.s fun x => (h.m x).trans (k.m x).symm
section
variable {s : SS}
theorem items_shows {d : Int} (h : InvD d s) : Shows Sheet.id (itemsL s) s.items := vals_shows h.ki fun k x hx => (h.it k x hx).1
theorem pieces_shows {d : Int} (h : InvD d s) : Shows Piece.id (piecesL s) s.pieces := vals_shows h.kp fun k x hx => (h.pc k x hx).1
/-- what the scraps leave as it was -/
structure Same (s t : SS) : Prop where
  ru : t.rules = s.rules
  pa : t.parent = s.parent
  lo : t.lots = s.lots
  la : t.last = s.last
  re : t.received = s.received
theorem Same.refl (s : SS) : Same s s := ⟨rfl, rfl, rfl, rfl, rfl⟩
theorem Same.trans {a b c : SS} (h : Same a b) (k : Same b c) : Same a c := ⟨k.ru.trans h.ru, k.pa.trans h.pa, k.lo.trans h.lo, k.la.trans h.la, k.re.trans h.re⟩
theorem Same.ext {a b : SS} (h : Same a b) : Ext a b := Ext.same h.ru h.la h.lo h.pa
theorem scrap_same (s : SS) (id : Int) : Same s (scrapF s id) := by
  unfold scrapF
  split
  · exact ⟨rfl, rfl, rfl, rfl, rfl⟩
  · split <;> exact ⟨rfl, rfl, rfl, rfl, rfl⟩
theorem scrap_item {x : Sheet} (hx : look s.items x.id = some x) : (scrapF s x.id).items = del s.items x.id ∧ (scrapF s x.id).pieces = s.pieces := by
  unfold scrapF
  rw [hx]; exact ⟨rfl, rfl⟩
theorem scrap_piece {x : Piece} (hi : look s.items x.id = none) (hx : look s.pieces x.id = some x) : (scrapF s x.id).items = s.items ∧ (scrapF s x.id).pieces = del s.pieces x.id := by
  unfold scrapF
  rw [hi, hx]; exact ⟨rfl, rfl⟩
def scrapI (P : Sheet → Bool) (l : List Sheet) (s : SS) : SS := l.foldl (fun s x => if P x then scrapF s x.id else s) s
def scrapP (P : Piece → Bool) (l : List Piece) (s : SS) : SS := l.foldl (fun s x => if P x then scrapF s x.id else s) s
theorem scrapI_snoc (P : Sheet → Bool) (l : List Sheet) (x : Sheet) (s : SS) : scrapI P (l ++ [x]) s = if P x then scrapF (scrapI P l s) x.id else scrapI P l s := by unfold scrapI; rw [List.foldl_append]; rfl
theorem scrapP_snoc (P : Piece → Bool) (l : List Piece) (x : Piece) (s : SS) : scrapP P (l ++ [x]) s = if P x then scrapF (scrapP P l s) x.id else scrapP P l s := by unfold scrapP; rw [List.foldl_append]; rfl
theorem scrapI_all (P : Sheet → Bool) : ∀ (l : List Sheet) {s : SS}, Inv s → l.Pairwise (fun a b => a.id < b.id) → (∀ x ∈ l, look s.items x.id = some x) →
    Inv (scrapI P l s) ∧ Same s (scrapI P l s) ∧ (scrapI P l s).pieces = s.pieces ∧ ∀ k x, look (scrapI P l s).items k = some x ↔ look s.items k = some x ∧ ∀ y ∈ l, y.id = k → P y = false
  | [], s, h, _, _ => ⟨h, Same.refl s, rfl, fun k x => ⟨fun h => ⟨h, fun y hy => by cases hy⟩, fun h => h.1⟩⟩
  | z :: l, s, h, hs, hm => by
    rw [List.pairwise_cons] at hs
    have hz := hm z (List.mem_cons_self ..)
    have e0 : scrapI P (z :: l) s = scrapI P l (if P z then scrapF s z.id else s) := rfl
    rw [e0]
    cases hp : P z with
    | false =>
      rw [if_neg (by decide)]
      obtain ⟨a1, a2, a3, a4⟩ := scrapI_all P l h hs.2 fun x hx => hm x (List.mem_cons_of_mem _ hx)
      refine ⟨a1, a2, a3, fun k x => (a4 k x).trans ⟨fun hh => ⟨hh.1, fun y hy hk => ?_⟩, fun hh => ⟨hh.1, fun y hy => hh.2 y (List.mem_cons_of_mem _ hy)⟩⟩⟩
      rcases List.mem_cons.1 hy with rfl | hy
      · exact hp
      · exact hh.2 y hy hk
    | true =>
      rw [if_pos rfl]
      obtain ⟨b1, b2⟩ := scrap_item hz
      obtain ⟨a1, a2, a3, a4⟩ := scrapI_all P l (scrap_inv h z.id).1 hs.2 fun x hx => by
        rw [b1, look_del_ne _ (by have := hs.1 x hx; omega)]
        exact hm x (List.mem_cons_of_mem _ hx)
      refine ⟨a1, (scrap_same s z.id).trans a2, a3.trans b2, fun k x => (a4 k x).trans ?_⟩
      rw [b1, look_del]
      constructor
      · rintro ⟨h1, h2⟩
        split at h1
        · cases h1
        · rename_i hne
          refine ⟨h1, fun y hy hk => ?_⟩
          rcases List.mem_cons.1 hy with rfl | hy
          · exact absurd hk.symm hne
          · exact h2 y hy hk
      · rintro ⟨h1, h2⟩
        have hne : k ≠ z.id := fun e => by have := h2 z (List.mem_cons_self ..) e.symm; rw [hp] at this; cases this
        rw [if_neg hne]
        exact ⟨h1, fun y hy => h2 y (List.mem_cons_of_mem _ hy)⟩
theorem scrapP_all (P : Piece → Bool) : ∀ (l : List Piece) {s : SS}, Inv s → l.Pairwise (fun a b => a.id < b.id) → (∀ x ∈ l, look s.pieces x.id = some x) →
    Inv (scrapP P l s) ∧ Same s (scrapP P l s) ∧ (scrapP P l s).items = s.items ∧ ∀ k x, look (scrapP P l s).pieces k = some x ↔ look s.pieces k = some x ∧ ∀ y ∈ l, y.id = k → P y = false
  | [], s, h, _, _ => ⟨h, Same.refl s, rfl, fun k x => ⟨fun h => ⟨h, fun y hy => by cases hy⟩, fun h => h.1⟩⟩
  | z :: l, s, h, hs, hm => by
    rw [List.pairwise_cons] at hs
    have hz := hm z (List.mem_cons_self ..)
    have hi : look s.items z.id = none := by
      cases e : look s.items z.id with
      | none => rfl
      | some y => rw [h.di _ _ e] at hz; cases hz
    have e0 : scrapP P (z :: l) s = scrapP P l (if P z then scrapF s z.id else s) := rfl
    rw [e0]
    cases hp : P z with
    | false =>
      rw [if_neg (by decide)]
      obtain ⟨a1, a2, a3, a4⟩ := scrapP_all P l h hs.2 fun x hx => hm x (List.mem_cons_of_mem _ hx)
      refine ⟨a1, a2, a3, fun k x => (a4 k x).trans ⟨fun hh => ⟨hh.1, fun y hy hk => ?_⟩, fun hh => ⟨hh.1, fun y hy => hh.2 y (List.mem_cons_of_mem _ hy)⟩⟩⟩
      rcases List.mem_cons.1 hy with rfl | hy
      · exact hp
      · exact hh.2 y hy hk
    | true =>
      rw [if_pos rfl]
      obtain ⟨b1, b2⟩ := scrap_piece hi hz
      obtain ⟨a1, a2, a3, a4⟩ := scrapP_all P l (scrap_inv h z.id).1 hs.2 fun x hx => by
        rw [b2, look_del_ne _ (by have := hs.1 x hx; omega)]
        exact hm x (List.mem_cons_of_mem _ hx)
      refine ⟨a1, (scrap_same s z.id).trans a2, a3.trans b1, fun k x => (a4 k x).trans ?_⟩
      rw [b2, look_del]
      constructor
      · rintro ⟨h1, h2⟩
        split at h1
        · cases h1
        · rename_i hne
          refine ⟨h1, fun y hy hk => ?_⟩
          rcases List.mem_cons.1 hy with rfl | hy
          · exact absurd hk.symm hne
          · exact h2 y hy hk
      · rintro ⟨h1, h2⟩
        have hne : k ≠ z.id := fun e => by have := h2 z (List.mem_cons_self ..) e.symm; rw [hp] at this; cases this
        rw [if_neg hne]
        exact ⟨h1, fun y hy => h2 y (List.mem_cons_of_mem _ hy)⟩
/-- Expire -/
def expS (s : SS) (day : Int) : SS := scrapI (fun x => oldF s.rules x day) (itemsL s) s
def expL (s : SS) (day : Int) : List Int := ((itemsL s).filter fun x => oldF s.rules x day).map (·.id)
theorem exp_all (h : Inv s) (day : Int) : Inv (expS s day) ∧ Same s (expS s day) ∧ (expS s day).pieces = s.pieces ∧ (∀ k x, look (expS s day).items k = some x ↔ look s.items k = some x ∧ oldF s.rules x day = false) ∧ itemsL (expS s day) = (itemsL s).filter fun x => !oldF s.rules x day := by
  have hs := items_shows h
  obtain ⟨a1, a2, a3, a4⟩ := scrapI_all (fun x => oldF s.rules x day) (itemsL s) h hs.s fun x hx => (hs.m x).1 hx
  have a5 : ∀ k x, look (expS s day).items k = some x ↔ look s.items k = some x ∧ oldF s.rules x day = false := fun k x => by
    refine (a4 k x).trans ⟨fun hh => ⟨hh.1, ?_⟩, fun hh => ⟨hh.1, fun y hy hk => ?_⟩⟩
    · have h1 := (h.it _ _ hh.1).1
      exact hh.2 x ((hs.m x).2 (by rw [h1]; exact hh.1)) h1
    · have h1 := (hs.m y).1 hy
      rw [hk, hh.1] at h1
      injection h1 with h1
      rw [← h1]; exact hh.2
  refine ⟨a1, a2, a3, a5, ?_⟩
  refine (items_shows a1).eq ⟨hs.s.filter _, fun x => ?_⟩
  rw [List.mem_filter, hs.m, show look (scrapI (fun x => oldF s.rules x day) (itemsL s) s).items x.id = some x ↔ _ from a5 x.id x]
  simp
/-- Recall -/
def rec1 (s : SS) (lot : Int) : SS := scrapI (fun x => decide (x.lot = lot)) (itemsL s) s
def rec2 (s : SS) (lot : Int) : SS := scrapP (fun x => decide (x.lot = lot) && decide (x.use = 0)) (piecesL s) (rec1 s lot)
def recU (s : SS) (lot : Int) : List Int := ((piecesL s).filter fun x => decide (x.lot = lot) && !decide (x.use = 0)).map (·.use)
theorem rec1_pieces (h : Inv s) (lot : Int) : piecesL (rec1 s lot) = piecesL s := by
  have hs := items_shows h
  obtain ⟨a1, a2, a3, a4⟩ := scrapI_all (fun x => decide (x.lot = lot)) (itemsL s) h hs.s fun x hx => (hs.m x).1 hx
  unfold piecesL
  rw [show (rec1 s lot).pieces = s.pieces from a3]
theorem rec_all (h : Inv s) (lot : Int) : Inv (rec2 s lot) ∧ Same s (rec2 s lot) ∧ (∀ k x, look (rec2 s lot).items k = some x ↔ look s.items k = some x ∧ x.lot ≠ lot) ∧ (∀ k x, look (rec2 s lot).pieces k = some x ↔ look s.pieces k = some x ∧ ¬ (x.lot = lot ∧ x.use = 0)) := by
  have hs := items_shows h
  obtain ⟨a1, a2, a3, a4⟩ := scrapI_all (fun x => decide (x.lot = lot)) (itemsL s) h hs.s fun x hx => (hs.m x).1 hx
  have hp := pieces_shows h
  obtain ⟨b1, b2, b3, b4⟩ := scrapP_all (fun x => decide (x.lot = lot) && decide (x.use = 0)) (piecesL s) a1 hp.s fun x hx => by rw [a3]; exact (hp.m x).1 hx
  refine ⟨b1, a2.trans b2, fun k x => ?_, fun k x => ?_⟩
  · rw [show (rec2 s lot).items = (rec1 s lot).items from b3]
    refine (a4 k x).trans ⟨fun hh => ⟨hh.1, ?_⟩, fun hh => ⟨hh.1, fun y hy hk => ?_⟩⟩
    · have h1 := (h.it _ _ hh.1).1
      have := hh.2 x ((hs.m x).2 (by rw [h1]; exact hh.1)) h1
      simpa using this
    · have h1 := (hs.m y).1 hy
      rw [hk, hh.1] at h1
      injection h1 with h1
      rw [← h1]; simpa using hh.2
  · refine (b4 k x).trans ?_
    rw [a3]
    refine ⟨fun hh => ⟨hh.1, ?_⟩, fun hh => ⟨hh.1, fun y hy hk => ?_⟩⟩
    · have h1 := (h.pc _ _ hh.1).1
      have := hh.2 x ((hp.m x).2 (by rw [h1]; exact hh.1)) h1
      simpa using this
    · have h1 := (hp.m y).1 hy
      rw [hk, hh.1] at h1
      injection h1 with h1
      rw [← h1]; simpa using hh.2
/-- ascending, without what stands twice -/
def putU (l : List Int) (n : Int) : List Int := if n ∈ l then l else insG (fun y => decide (n < y)) n l
theorem putU_ok {l : List Int} (n : Int) (h : l.Pairwise (· < ·)) : (putU l n).Pairwise (· < ·) ∧ ∀ z, z ∈ putU l n ↔ z = n ∨ z ∈ l := by
  unfold putU
  split
  · rename_i hm
    exact ⟨h, fun z => ⟨.inr, fun hz => by rcases hz with rfl | hz <;> assumption⟩⟩
  · rename_i hm
    exact ⟨insG_sorted (key := id) (fun y => rfl) h fun y hy e => hm (by have : y = n := e; rw [← this]; exact hy), fun z => insG_mem⟩
theorem putU_all : ∀ (us l : List Int), l.Pairwise (· < ·) → (us.foldl putU l).Pairwise (· < ·) ∧ ∀ z, z ∈ us.foldl putU l ↔ z ∈ us ∨ z ∈ l
  | [], l, h => ⟨h, fun z => by simp⟩
  | u :: us, l, h => by
    obtain ⟨h1, h2⟩ := putU_ok u h
    obtain ⟨h3, h4⟩ := putU_all us (putU l u) h1
    refine ⟨h3, fun z => (h4 z).trans ?_⟩
    rw [h2, List.mem_cons]
    constructor
    · rintro (h | h | h) <;> simp [h]
    · rintro ((h | h) | h) <;> simp [h]
end
end Go.Proofs.Ytnejacogflkmmaa
