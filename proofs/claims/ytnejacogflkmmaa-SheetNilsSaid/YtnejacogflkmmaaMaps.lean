/- Maps keyed by ints, whatever their elements: what a block holds, told as a list of pairs in the order of their insertion; look-up, store, delete, len, range. -/
import Derived.Test.YtnejacogflkmmaaLib
import Derived.MapKept
import Derived.Maps.RangeRun
import Derived.Maps.Own
namespace Go.Proofs.Ytnejacogflkmmaa
open Go.RowKit Go.MapKept
open Go.ChangeMaps (setBlock)

def keyInt : Value → Int
  | .int _ n => n
  | _ => 0
theorem key_of {v : Value} (h : IsKey (.int .i64) v) : v = .int .i64 (keyInt v) := by
  cases v <;> simp [IsKey] at h
  rw [h]; rfl
def prOf (e : MapEntry) : Int × Value := (keyInt e.key, e.val)

/-- Block r is a map keyed by ints: just the pairs M, in the order of their insertion. -/
def MapOf (w : World) (r : Nat) (M : List (Int × Value)) : Prop :=
  ∃ es clock, w.heap[r]? = some (.map es clock) ∧ Stamped es clock ∧ (∀ x ∈ es.toList, IsKey (.int .i64) x.key) ∧ es.toList.map prOf = M

def look {V : Type} (M : List (Int × V)) (k : Int) : Option V := (M.find? fun p => p.1 == k).map (·.2)
def put {V : Type} (M : List (Int × V)) (k : Int) (v : V) : List (Int × V) := if (look M k).isSome then M.map fun p => if p.1 == k then (k, v) else p else M ++ [(k, v)]
def del {V : Type} (M : List (Int × V)) (k : Int) : List (Int × V) := M.filter fun p => p.1 != k

theorem look_none {V : Type} {M : List (Int × V)} {k : Int} (h : ∀ p ∈ M, p.1 ≠ k) : look M k = none := by
  unfold look
  rw [List.find?_eq_none.2 (fun p hp => by simpa using h p hp)]; rfl
theorem look_mem {V : Type} {M : List (Int × V)} {k : Int} {v : V} (hn : (M.map (·.1)).Nodup) (h : (k, v) ∈ M) : look M k = some v := by
  unfold look
  induction M with
  | nil => cases h
  | cons p M ih =>
    simp only [List.map_cons, List.nodup_cons] at hn
    rw [List.find?_cons]
    by_cases hp : p.1 = k
    · simp only [hp, beq_self_eq_true, Option.map_some]
      rcases List.mem_cons.1 h with rfl | h
      · rfl
      · exact absurd (List.mem_map.2 ⟨_, h, rfl⟩) (hp ▸ hn.1)
    · simp only [beq_eq_false_iff_ne.2 hp]
      rcases List.mem_cons.1 h with rfl | h
      · exact absurd rfl hp
      · exact ih hn.2 h
theorem mem_of_look {V : Type} {M : List (Int × V)} {k : Int} {v : V} (h : look M k = some v) : (k, v) ∈ M := by
  unfold look at h
  cases hf : M.find? (fun p => p.1 == k) with
  | none => rw [hf] at h; cases h
  | some p =>
    rw [hf] at h
    have h1 := List.find?_some hf
    have h2 := List.mem_of_find?_eq_some hf
    simp at h h1
    rw [← h, ← h1]; exact h2

section
variable {P : Program} {w w' : World} {r : Nat} {M : List (Int × Value)}
theorem MapOf.nodup (h : MapOf w r M) : (M.map (·.1)).Nodup := by
  obtain ⟨es, clock, _, hs, hk, rfl⟩ := h
  rw [List.map_map]
  have h3 := hs.2.2
  rw [List.Nodup, List.pairwise_map] at h3 ⊢
  refine h3.imp_of_mem (fun {a b} ha hb hne he => hne ?_)
  have he' : keyInt a.key = keyInt b.key := he
  rw [key_of (hk a ha), key_of (hk b hb), he']
theorem MapOf.lt (h : MapOf w r M) : r < w.heap.size := by
  obtain ⟨es, clock, hb, _⟩ := h
  exact (Array.getElem?_eq_some_iff.1 hb).1
theorem MapOf.same (h : MapOf w r M) (hk : w'.heap[r]? = w.heap[r]?) : MapOf w' r M := by
  obtain ⟨es, clock, hb, rest⟩ := h
  exact ⟨es, clock, hk.trans hb, rest⟩
theorem MapOf.alloc (h : MapOf w r M) (o : Obj) : MapOf (w.alloc o) r M := h.same (Below.heap_alloc w o r h.lt)
theorem MapOf.drew (h : MapOf w r M) : MapOf w.drew r M := h
theorem MapOf.below {B : Nat} (h : MapOf w r M) (hb : Below B w w') (hr : r < B) : MapOf w' r M := h.same (hb.block r hr)
theorem MapOf.grown {row : Option Nat} (h : MapOf w r M) (hg : w.grownBy w' row) (hr : some r ≠ row) : MapOf w' r M := h.same (hg.block r h.lt hr)
theorem MapOf.setCell (h : MapOf w r M) (a : Addr) (u : Value) (hr : r ≠ a.block) : MapOf (w.setCell a u) r M := h.same (Below.heap_setCell w a u r hr)
theorem MapOf.new (w : World) : MapOf (w.alloc (.map #[] 0)) w.heap.size [] := ⟨#[], 0, heap_alloc_new w _, stamped_empty 0, by simp, rfl⟩
theorem MapOf.blk_ne {g : Nat} {t : TypeId} {cs : Array Value} (h : MapOf w r M) (hb : Blk w g t cs) : r ≠ g := by
  rintro rfl
  obtain ⟨es, clock, h1, _⟩ := h
  unfold Blk at hb
  rw [hb] at h1
  cases h1

theorem MapOf.find (h : MapOf w r M) (n : Int) : ∃ es clock, w.heap[r]? = some (.map es clock) ∧ Stamped es clock ∧ (∀ x ∈ es.toList, IsKey (.int .i64) x.key) ∧ es.toList.map prOf = M ∧
    ((Instr.findNow (.int .i64) (.int .i64 n) es.toList 0 = some none ∧ look M n = none ∧ ∀ x ∈ es.toList, x.key ≠ .int .i64 n) ∨
     ∃ j e, Instr.findNow (.int .i64) (.int .i64 n) es.toList 0 = some (some (j, e.val)) ∧ es.toList[j]? = some e ∧ e.key = .int .i64 n ∧ look M n = some e.val) := by
  have hn := h.nodup
  obtain ⟨es, clock, hb, hs, hk, rfl⟩ := h
  refine ⟨es, clock, hb, hs, hk, rfl, ?_⟩
  rcases findNow_spec (d := .int .i64) (k := .int .i64 n) (by simp [IsKey]) es.toList 0 hk with ⟨h1, h2⟩ | ⟨j, e, h1, h2, h3⟩
  · refine .inl ⟨h1, look_none fun p hp hpe => ?_, h2⟩
    obtain ⟨x, hx, rfl⟩ := List.mem_map.1 hp
    refine h2 x hx ?_
    have : keyInt x.key = n := hpe
    rw [key_of (hk x hx), this]
  · refine .inr ⟨j, e, by simpa using h1, h2, h3, look_mem hn ?_⟩
    refine List.mem_map.2 ⟨e, List.mem_of_getElem? h2, ?_⟩
    unfold prOf; rw [h3]; rfl

theorem MapOf.look_no {t k e : TypeId} {z : Value} {n : Int} (h : MapOf w r M) (ht : P.underlying t = some (.map k e)) (hk : P.underlying k = some (.int .i64)) (hz : ∀ w, (zeroValue e).run P w = .ok z w) (hl : look M n = none) (c : Bool) :
    (Instr.lookup t (.map (some r)) (.int .i64 n) c).run P w = .ok (if c then .tuple #[z, .bool false] else z) w := by
  obtain ⟨es, clock, hb, hs, hks, hM, ⟨h1, h2, h3⟩ | ⟨j, e0, h1, h2, h3, h4⟩⟩ := h.find n
  · simp [Instr.lookup, run_underlying ht, MapKept.run_getObj_map hb, run_checkKey (k := .int .i64 n) hk (by simp [IsKey]), run_findKey hk h1, hz, Result.andThen]
  · rw [hl] at h4; cases h4
theorem MapOf.look_yes {t k e : TypeId} {v : Value} {n : Int} (h : MapOf w r M) (ht : P.underlying t = some (.map k e)) (hk : P.underlying k = some (.int .i64)) (hl : look M n = some v) (c : Bool) :
    (Instr.lookup t (.map (some r)) (.int .i64 n) c).run P w = .ok (if c then .tuple #[v, .bool true] else v) w := by
  obtain ⟨es, clock, hb, hs, hks, hM, ⟨h1, h2, h3⟩ | ⟨j, e0, h1, h2, h3, h4⟩⟩ := h.find n
  · rw [hl] at h2; cases h2
  · rw [hl] at h4
    injection h4 with h4
    simp [Instr.lookup, run_underlying ht, MapKept.run_getObj_map hb, run_checkKey (k := .int .i64 n) hk (by simp [IsKey]), run_findKey hk h1, Result.andThen, h4]

theorem map_set_put {V : Type} {M : List (Int × V)} {j : Nat} {n : Int} {v v0 : V} (hn : (M.map (·.1)).Nodup) (hj : M[j]? = some (n, v0)) : M.set j (n, v) = put M n v := by
  have hl : look M n = some v0 := look_mem hn (List.mem_of_getElem? hj)
  unfold put
  rw [hl]
  simp only [Option.isSome_some, if_true]
  apply List.ext_getElem?
  intro i
  rw [List.getElem?_set, List.getElem?_map]
  by_cases hij : j = i
  · subst hij
    have hlt := (List.getElem?_eq_some_iff.1 hj).1
    have hm : M[j] = (n, v0) := (List.getElem?_eq_some_iff.1 hj).2
    simp [hlt, hm]
  · simp only [hij, if_false]
    cases hi : M[i]? with
    | none => rfl
    | some p =>
      have hne : p.1 ≠ n := by
        intro he
        have h1 : (M.map (·.1))[i]? = some n := by rw [List.getElem?_map, hi]; simp [he]
        have h2 : (M.map (·.1))[j]? = some n := by rw [List.getElem?_map, hj]; rfl
        have hlt := (List.getElem?_eq_some_iff.1 h2).1
        exact hij ((List.getElem?_inj hlt hn).1 (h2.trans h1.symm))
      simp [hne]

theorem MapOf.run_put {t k e : TypeId} {n : Int} (h : MapOf w r M) (ht : P.underlying t = some (.map k e)) (hk : P.underlying k = some (.int .i64)) (v : Value) :
    ∃ w', (Instr.mapUpdate t (.map (some r)) (.int .i64 n) v).run P w = .ok () w' ∧ MapOf w' r (put M n v) ∧ w.grownBy w' (some r) := by
  have hn := h.nodup
  obtain ⟨es, clock, hb, hs, hks, rfl, ⟨h1, h2, h3⟩ | ⟨j, e0, h1, h2, h3, h4⟩⟩ := h.find n
  · refine ⟨setBlock w r (.map (es.push ⟨.int .i64 n, v, clock⟩) (clock + 1)), ?_, ⟨_, _, (heap_set hb).1, stamped_push hs h3, ?_, ?_⟩, ⟨rfl, rfl, rfl, by simp [setBlock], fun i _ hi => (heap_set hb).2 i (fun e => hi (by rw [e]))⟩⟩
    · simp [Instr.mapUpdate, run_underlying ht, MapKept.run_getObj_map hb, run_checkKey (k := .int .i64 n) hk (by simp [IsKey]), run_findKey hk h1, MapKept.run_setObj_map _ hb, Result.andThen, setBlock]
    · intro x hx
      simp only [Array.toList_push, List.mem_append, List.mem_singleton] at hx
      rcases hx with hx | rfl
      · exact hks x hx
      · simp [IsKey]
    · unfold put
      rw [h2]
      simp [prOf, keyInt]
  · have hj : es[j]? = some e0 := by simpa using h2
    have hlist : (es.modify j (fun e' => { e' with key := .int .i64 n, val := v })).toList = es.toList.set j { e0 with key := .int .i64 n, val := v } := by rw [Array.toList_modify, Go.ChangeMaps.modify_eq_set _ _ _ _ h2]
    have hkf : ∀ e', es[j]? = some e' → ({ e' with key := .int .i64 n, val := v } : MapEntry).key = e'.key := fun e' he' => by rw [hj] at he'; cases he'; exact h3.symm
    refine ⟨setBlock w r (.map (es.modify j (fun e' => { e' with key := .int .i64 n, val := v })) clock), ?_, ⟨_, _, (heap_set hb).1, stamped_modify hs _ _ (fun _ _ => rfl) (fun e' _ he' => hkf e' he'), isKey_modify hks _ _ hkf, ?_⟩, ⟨rfl, rfl, rfl, by simp [setBlock], fun i _ hi => (heap_set hb).2 i (fun e => hi (by rw [e]))⟩⟩
    · simp [Instr.mapUpdate, run_underlying ht, MapKept.run_getObj_map hb, run_checkKey (k := .int .i64 n) hk (by simp [IsKey]), run_findKey hk h1, hj, h3, run_keyThatStays (d := .int .i64) (k := .int .i64 n) (by simp [IsKey]), MapKept.run_setObj_map _ hb, Result.andThen, setBlock]
    · rw [hlist, List.map_set]
      have : (es.toList.map prOf)[j]? = some (n, e0.val) := by rw [List.getElem?_map, h2]; simp [prOf, h3, keyInt]
      exact map_set_put hn this

theorem MapOf.run_del {t k e ty : TypeId} {n : Int} (h : MapOf w r M) (ht : P.underlying t = some (.map k e)) (hk : P.underlying k = some (.int .i64)) :
    ∃ w', (Builtin.delete_ #[t, k] ty #[.map (some r), .int .i64 n]).run P w = .ok (.tuple #[]) w' ∧ MapOf w' r (del M n) ∧ w.grownBy w' (some r) := by
  have hn := h.nodup
  obtain ⟨es, clock, hb, hs, hks, rfl, ⟨h1, h2, h3⟩ | ⟨j, e0, h1, h2, h3, h4⟩⟩ := h.find n
  · refine ⟨setBlock w r (.map es clock), ?_, ⟨_, _, (heap_set hb).1, hs, hks, ?_⟩, ⟨rfl, rfl, rfl, by simp [setBlock], fun i _ hi => (heap_set hb).2 i (fun e => hi (by rw [e]))⟩⟩
    · simp [Builtin.delete_, run_underlying ht, MapKept.run_getObj_map hb, run_checkKey (k := .int .i64 n) hk (by simp [IsKey]), run_findKey hk h1, MapKept.run_setObj_map _ hb, Result.andThen, setBlock]
    · unfold del
      refine (List.filter_eq_self.2 fun p hp => ?_).symm
      obtain ⟨x, hx, rfl⟩ := List.mem_map.1 hp
      simp only [bne_iff_ne, prOf]
      intro he
      exact h3 x hx (by rw [key_of (hks x hx), he])
  · have hjl : j < es.toList.length := (List.getElem?_eq_some_iff.1 h2).1
    have hjs : j < es.size := by simpa using hjl
    have hsub : (es.eraseIdxIfInBounds j).toList = es.toList.eraseIdx j := by
      unfold Array.eraseIdxIfInBounds
      rw [dif_pos hjs]
      simp
    refine ⟨setBlock w r (.map (es.eraseIdxIfInBounds j) clock), ?_, ⟨_, _, (heap_set hb).1, stamped_erase hs j, ?_, ?_⟩, ⟨rfl, rfl, rfl, by simp [setBlock], fun i _ hi => (heap_set hb).2 i (fun e => hi (by rw [e]))⟩⟩
    · simp [Builtin.delete_, run_underlying ht, MapKept.run_getObj_map hb, run_checkKey (k := .int .i64 n) hk (by simp [IsKey]), run_findKey hk h1, MapKept.run_setObj_map _ hb, Result.andThen, setBlock]
    · intro x hx
      rw [hsub] at hx
      exact hks x ((List.eraseIdx_sublist _ _).subset hx)
    · rw [hsub]
      unfold del
      have hj' : (es.toList.map prOf)[j]? = some (n, e0.val) := by rw [List.getElem?_map, h2]; simp [prOf, h3, keyInt]
      rw [Go.ChangeMaps.map_eraseIdx]
      rw [← Go.ChangeMaps.filter_eq_eraseIdx (fun p : Int × Value => p.1 == n) _ j (n, e0.val) hj' (by simp) ?_]
      · rfl
      · rw [List.Nodup, List.pairwise_map] at hn
        refine hn.imp fun {a b} hne hab => hne ?_
        simp at hab
        rw [hab.1, hab.2]

theorem MapOf.run_len {t k e ty : TypeId} (h : MapOf w r M) (ht : P.underlying t = some (.map k e)) : (Builtin.len_ #[t] ty #[.map (some r)]).run P w = .ok (.int .i64 M.length) w := by
  obtain ⟨es, clock, hb, hs, hks, rfl⟩ := h
  simp [Builtin.len_, run_underlying ht, MapKept.run_getObj_map hb, Result.andThen, goInt]
end
/-- Block 'it' is an iterator over the map in block r, which holds M; L is still to come. -/
def IterOf (w : World) (it r : Nat) (M L : List (Int × Value)) : Prop :=
  ∃ es clock seen last, w.heap[r]? = some (.map es clock) ∧ Stamped es clock ∧ (∀ x ∈ es.toList, IsKey (.int .i64) x.key) ∧ es.toList.map prOf = M ∧
    w.heap[it]? = some (.mapIter (some r) clock seen last) ∧ clock ≤ last ∧ (leftOf es seen).toList.map prOf = L
/-- how many are still to come -/
def leftN (w : World) (it : Nat) : Nat :=
  match w.heap[it]? with
  | some (.mapIter (some r) _ seen _) => match w.heap[r]? with
    | some (.map es _) => (leftOf es seen).size
    | _ => 0
  | _ => 0

section
variable {P : Program} {w w' : World} {it r : Nat} {M L : List (Int × Value)}
theorem IterOf.map_ (h : IterOf w it r M L) : MapOf w r M := by
  obtain ⟨es, clock, seen, last, h1, h2, h3, h4, _⟩ := h
  exact ⟨es, clock, h1, h2, h3, h4⟩
theorem IterOf.lt (h : IterOf w it r M L) : it < w.heap.size := by
  obtain ⟨es, clock, seen, last, _, _, _, _, h5, _⟩ := h
  exact (Array.getElem?_eq_some_iff.1 h5).1
theorem IterOf.left_eq (h : IterOf w it r M L) : leftN w it = L.length := by
  obtain ⟨es, clock, seen, last, h1, _, _, _, h5, _, rfl⟩ := h
  unfold leftN
  rw [h5]
  simp only [h1]
  simp
theorem IterOf.same (h : IterOf w it r M L) (h1 : w'.heap[r]? = w.heap[r]?) (h2 : w'.heap[it]? = w.heap[it]?) : IterOf w' it r M L := by
  obtain ⟨es, clock, seen, last, e1, e2, e3, e4, e5, e6⟩ := h
  exact ⟨es, clock, seen, last, h1.trans e1, e2, e3, e4, h2.trans e5, e6⟩
theorem IterOf.alloc (h : IterOf w it r M L) (o : Obj) : IterOf (w.alloc o) it r M L := h.same (Below.heap_alloc w o r h.map_.lt) (Below.heap_alloc w o it h.lt)
theorem IterOf.drew (h : IterOf w it r M L) : IterOf w.drew it r M L := h
theorem IterOf.setCell (h : IterOf w it r M L) (a : Addr) (u : Value) (h1 : r ≠ a.block) (h2 : it ≠ a.block) : IterOf (w.setCell a u) it r M L := h.same (Below.heap_setCell w a u r h1) (Below.heap_setCell w a u it h2)
theorem IterOf.below {B : Nat} (h : IterOf w it r M L) (hb : Below B w w') (h1 : r < B) (h2 : it < B) : IterOf w' it r M L := h.same (hb.block r h1) (hb.block it h2)
theorem IterOf.grown {row : Option Nat} (h : IterOf w it r M L) (hg : w.grownBy w' row) (h1 : some r ≠ row) (h2 : some it ≠ row) : IterOf w' it r M L := h.same (hg.block r h.map_.lt h1) (hg.block it h.lt h2)
theorem IterOf.blk_ne {g : Nat} {t : TypeId} {cs : Array Value} (h : IterOf w it r M L) (hb : Blk w g t cs) : it ≠ g := by
  rintro rfl
  obtain ⟨es, clock, seen, last, _, _, _, _, h5, _⟩ := h
  unfold Blk at hb
  rw [hb] at h5
  cases h5

theorem MapOf.run_range {t k e : TypeId} (h : MapOf w r M) (ht : P.underlying t = some (.map k e)) :
    ∃ o, (Instr.range t (.map (some r))).run P w = .ok (.pointer (some ⟨w.heap.size, 0, none⟩)) (w.alloc o) ∧ IterOf (w.alloc o) w.heap.size r M M := by
  have hlt := h.lt
  obtain ⟨es, clock, hb, hs, hks, rfl⟩ := h
  refine ⟨.mapIter (some r) clock #[] clock, ?_, es, clock, #[], clock, (Below.heap_alloc w _ r hlt).trans hb, hs, hks, rfl, heap_alloc_new w _, Nat.le_refl _, ?_⟩
  · simp [Instr.range, run_underlying ht, MapKept.run_getObj_map hb, Result.andThen, newObj, Sem.run]
  · simp only [leftOf, Array.toList_filter]
    rw [List.filter_eq_self.2 (fun _ _ => by simp)]

theorem IterOf.run_next {ty : TypeId} (h : IterOf w it r M L) :
    (L = [] ∧ (Instr.next (.pointer (some ⟨it, 0, none⟩)) false ty).run P w = .ok (.tuple #[.bool false]) w) ∨
    ∃ k v L1 L2 w', L = L1 ++ (k, v) :: L2 ∧ (Instr.next (.pointer (some ⟨it, 0, none⟩)) false ty).run P w = .ok (.tuple #[.bool true, .int .i64 k, v]) w' ∧ IterOf w' it r M (L1 ++ L2) ∧ w.grownBy w' (some it) ∧
      (Instr.entry (.pointer (some ⟨it, 0, none⟩))).run P w' = .ok (.tuple #[.int .i64 k, v]) w' := by
  obtain ⟨es, clock, seen, last, h1, h2, h3, h4, h5, h6, rfl⟩ := h
  rcases run_next_at (P := P) w ty it r clock last seen es clock h5 h1 h2.1 h6 with ⟨h0, hr⟩ | ⟨e, he, w1, hw1, hr⟩
  · refine .inl ⟨?_, hr⟩
    rw [Array.eq_empty_of_size_eq_zero h0]; rfl
  · right
    have hes : e ∈ es.toList := by simp only [leftOf, Array.toList_filter, List.mem_filter] at he; exact he.1
    have hkey := key_of (h3 e hes)
    have hne : it ≠ r := by rintro rfl; rw [h1] at h5; cases h5
    have h51 : w1.heap[it]? = some (.mapIter (some r) clock seen last) := by rcases hw1 with rfl | rfl <;> exact h5
    have h11 : w1.heap[r]? = some (.map es clock) := by rcases hw1 with rfl | rfl <;> exact h1
    have hb1 := (heap_set (o' := Obj.mapIter (some r) clock (seen.push e.born) clock) h51)
    have hleft : ∃ L1 L2, (leftOf es seen).toList = L1 ++ e :: L2 ∧ (leftOf es (seen.push e.born)).toList = L1 ++ L2 := by
      obtain ⟨L1, L2, hL⟩ := List.append_of_mem he
      refine ⟨L1, L2, hL, ?_⟩
      have hnd : ((leftOf es seen).toList.map (·.born)).Nodup := by
        unfold leftOf
        rw [Array.toList_filter]
        exact (List.filter_sublist.map _).nodup h2.2.1
      have hff : (leftOf es (seen.push e.born)).toList = (leftOf es seen).toList.filter (fun x => x.born != e.born) := by
        unfold leftOf
        rw [Array.toList_filter, Array.toList_filter, List.filter_filter]
        refine List.filter_congr fun x _ => ?_
        simp only [Array.contains_push, Bool.not_or]
        rw [Bool.and_comm]
        rfl
      rw [hff, hL, List.filter_append, List.filter_cons]
      rw [hL, List.map_append, List.map_cons, List.nodup_append] at hnd
      obtain ⟨n1, n2, n3⟩ := hnd
      rw [List.nodup_cons] at n2
      have f1 : L1.filter (fun x => x.born != e.born) = L1 := List.filter_eq_self.2 fun x hx => by
        have := n3 _ (List.mem_map.2 ⟨x, hx, rfl⟩) e.born (by simp)
        simpa using this
      have f2 : L2.filter (fun x => x.born != e.born) = L2 := List.filter_eq_self.2 fun x hx => by
        simp only [bne_iff_ne]
        intro heq
        exact n2.1 (heq ▸ List.mem_map.2 ⟨x, hx, rfl⟩)
      simp [f1, f2]
    obtain ⟨L1, L2, hL, hL'⟩ := hleft
    refine ⟨keyInt e.key, e.val, L1.map prOf, L2.map prOf, setBlock w1 it (.mapIter (some r) clock (seen.push e.born) clock), ?_, ?_, ?_, ?_, ?_⟩
    · rw [hL, List.map_append, List.map_cons]; rfl
    · rw [hr, ← hkey]
    · exact ⟨es, clock, seen.push e.born, clock, (hb1.2 r (Ne.symm hne)).trans h11, h2, h3, h4, hb1.1, Nat.le_refl _, by rw [hL', List.map_append]⟩
    · have hz : w1.heap = w.heap := by rcases hw1 with rfl | rfl <;> rfl
      refine ⟨?_, ?_, ?_, by simp [setBlock, hz], fun i _ hi => (hb1.2 i (fun e => hi (by rw [e]))).trans (by rw [hz])⟩ <;> rcases hw1 with rfl | rfl <;> rfl
    · have := run_entry_at (P := P) (setBlock w1 it (.mapIter (some r) clock (seen.push e.born) clock)) it r clock seen es clock e hb1.1 ((hb1.2 r (Ne.symm hne)).trans h11) hes h2.2.1
      rw [this, ← hkey]

theorem wpList_range_im {ops : Array Oper} {rest : List Oper} {o : Oper} {a : Act} {Q : Exit → Act → World → Prop} (hg : o.guard = none) (x : Operand) (t : TypeId) (hop : o.op = Op.range t x)
    (k e : TypeId) (ht : P.underlying t = some (.map k e)) (r : Nat) (hx : a.eval x = .map (some r)) (h : MapOf w r M)
    (hK : ∀ it W', IterOf W' it r M M → Below w.heap.size w W' → w.heap.size ≤ it → wpList P ops Q rest (a.put o.dst (.pointer (some ⟨it, 0, none⟩))) W') : wpList P ops Q (o :: rest) a w := by
  refine wpList_plain hg fun K' hK' => ?_
  obtain ⟨ob, hrun, hit⟩ := h.run_range (P := P) ht
  unfold Oper.wp
  simp [execOp, hop, hx, hrun, Result.andThen]
  exact hK' _ _ (hK _ _ hit ((Below.refl _ _).alloc (Nat.le_refl _) _) (Nat.le_refl _))
theorem wpList_next_im {ops : Array Oper} {rest : List Oper} {o : Oper} {a : Act} {Q : Exit → Act → World → Prop} (hg : o.guard = none) (x : Operand) (hop : o.op = Op.next x false)
    (it r : Nat) (hx : a.eval x = .pointer (some ⟨it, 0, none⟩)) (h : IterOf w it r M L)
    (h0 : L = [] → wpList P ops Q rest (a.put o.dst (.tuple #[.bool false])) w)
    (h1 : ∀ k v L1 L2 w', L = L1 ++ (k, v) :: L2 → IterOf w' it r M (L1 ++ L2) → w.grownBy w' (some it) → (Instr.entry (.pointer (some ⟨it, 0, none⟩))).run P w' = .ok (.tuple #[.int .i64 k, v]) w' →
      wpList P ops Q rest (a.put o.dst (.tuple #[.bool true, .int .i64 k, v])) w') : wpList P ops Q (o :: rest) a w := by
  refine wpList_plain hg fun K' hK' => ?_
  unfold Oper.wp
  rcases h.run_next (P := P) (ty := o.type) with ⟨hL, hrun⟩ | ⟨k, v, L1, L2, w', hL, hrun, hit, hgr, hen⟩
  · simp [execOp, hop, hx, hrun, Result.andThen]
    exact hK' _ _ (h0 hL)
  · simp [execOp, hop, hx, hrun, Result.andThen]
    exact hK' _ _ (h1 k v L1 L2 w' hL hit hgr hen)
theorem wpList_put_im {ops : Array Oper} {rest : List Oper} {o : Oper} {a : Act} {Q : Exit → Act → World → Prop} (hg : o.guard = none) (hd : o.dst = none) (m x v : Operand) (t : TypeId) (hop : o.op = Op.mapUpdate t m x v)
    (k e : TypeId) (ht : P.underlying t = some (.map k e)) (hk : P.underlying k = some (.int .i64)) (r : Nat) (hm : a.eval m = .map (some r)) (h : MapOf w r M) (n : Int) (val : Value) (hx : a.eval x = .int .i64 n) (hv : a.eval v = val)
    (hK : ∀ w', MapOf w' r (put M n val) → w.grownBy w' (some r) → wpList P ops Q rest a w') : wpList P ops Q (o :: rest) a w := by
  refine wpList_plain hg fun K' hK' => ?_
  obtain ⟨w', hrun, h1, h2⟩ := h.run_put (P := P) (n := n) ht hk val
  unfold Oper.wp
  simp [execOp, hop, hm, hx, hv, hrun, Result.andThen]
  refine hK' _ _ ?_
  rw [hd]
  exact hK w' h1 h2
end
end Go.Proofs.Ytnejacogflkmmaa
