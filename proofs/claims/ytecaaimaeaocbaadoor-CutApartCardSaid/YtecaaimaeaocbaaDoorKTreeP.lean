/- Trees of cuts: the plain laws of texts and trees. -/
import Derived.Test.YtecaaimaeaocbaaDoorKP
namespace Go.Proofs.YtecaaimaeaocbaaDoor
/-- a tree of cuts -/
inductive Tree where
  | node (op n pc : Int) (ts : List Tree)
abbrev Bs := List UInt8
def isDig (c : UInt8) : Bool := decide (48 ≤ c.toNat) && decide (c.toNat ≤ 57)
def valD (ds : Bs) : Nat := ds.foldl (fun v c => 10 * v + (c.toNat - 48)) 0
/-- a word that must stand there -/
def wordT (p s : Bs) : Option Bs := if p.isPrefixOf s then some (s.drop p.length) else none
/-- a number from 1 to 1000 that must stand there -/
def numT (s : Bs) : Option (Nat × Bs) :=
  if (s.takeWhile isDig).length = 0 ∨ 4 < (s.takeWhile isDig).length ∨ s.head? = some 48 ∨ 1000 < valD (s.takeWhile isDig) then none
  else some (valD (s.takeWhile isDig), s.dropWhile isDig)
def isCut (c : UInt8) (s : Bs) : Bool := (c == 104 || c == 118) && s.head? == some 32
/-- the tree of a text, and what is left of it -/
def cutT : Nat → Bs → Option (Tree × Bs)
  | 0, _ => none
  | _ + 1, [] => none
  | f + 1, c :: s =>
    if isCut c s then
      (wordT [32] s).bind fun s1 => (numT s1).bind fun q => (wordT [32, 40] q.2).bind fun s3 => (cutT f s3).bind fun a => (wordT [44, 32] a.2).bind fun s5 => (cutT f s5).bind fun b => (wordT [41] b.2).bind fun s7 =>
        some (.node (if c == 118 then 3 else 2) q.1 0 [a.1, b.1], s7)
    else if c = 95 then some (.node 0 0 0 [], s)
    else if 97 ≤ c.toNat ∧ c.toNat ≤ 122 then some (.node 1 0 c.toNat [], s)
    else none
/-- the digits of a number -/
def digT (n : Nat) : Bs := if n < 10 then [UInt8.ofNat (48 + n)] else digT (n / 10) ++ [UInt8.ofNat (48 + n % 10)]
termination_by n
/-- the text of a tree -/
def textT : Tree → Bs
  | .node op n pc [a, b] => (if op = 3 then [118, 32] else [104, 32]) ++ digT n.toNat ++ [32, 40] ++ textT a ++ [44, 32] ++ textT b ++ [41]
  | .node op n pc _ => if op = 0 then [95] else [UInt8.ofNat pc.toNat]
/-- the trees that have the form of one -/
inductive Right : Tree → Prop where
  | waste : Right (.node 0 0 0 [])
  | piece (pc : Nat) : 97 ≤ pc → pc ≤ 122 → Right (.node 1 0 pc [])
  | cut (op : Int) (n : Nat) (a b : Tree) : op = 2 ∨ op = 3 → 1 ≤ n → n ≤ 1000 → Right a → Right b → Right (.node op n 0 [a, b])
theorem wordT_some {p s r : Bs} (h : wordT p s = some r) : s = p ++ r := by
  unfold wordT at h
  split at h
  · rename_i h1
    injection h with h
    obtain ⟨t, ht⟩ := List.isPrefixOf_iff_prefix.1 h1
    rw [← ht, List.drop_left] at h
    rw [← ht, h]
  · cases h
theorem wordT_app (p r : Bs) : wordT p (p ++ r) = some r := by
  unfold wordT
  rw [if_pos (List.isPrefixOf_iff_prefix.2 (List.prefix_append p r)), List.drop_left]
theorem wordT_len {p s r : Bs} (h : wordT p s = some r) : r.length + p.length = s.length := by
  rw [wordT_some h, List.length_append]; omega
theorem numT_len {s r : Bs} {v : Nat} (h : numT s = some (v, r)) : r.length < s.length := by
  unfold numT at h
  split at h
  · cases h
  · rename_i h1
    injection h with h
    injection h with _ h
    have e := List.takeWhile_append_dropWhile (p := isDig) (l := s)
    have e2 := congrArg List.length e
    rw [List.length_append] at e2
    rw [← h]
    omega
theorem cutT_len : ∀ {f : Nat} {s r : Bs} {t : Tree}, cutT f s = some (t, r) → r.length < s.length
  | 0, _, _, _, h => by simp [cutT] at h
  | f + 1, [], _, _, h => by simp [cutT] at h
  | f + 1, c :: s, r, t, h => by
    unfold cutT at h
    split at h
    · simp only [Option.bind_eq_some_iff] at h
      obtain ⟨s1, h1, ⟨v, s2⟩, h2, s3, h3, ⟨a, s4⟩, h4, s5, h5, ⟨b, s6⟩, h6, s7, h7, h8⟩ := h
      have g1 := wordT_len h1
      have g2 := numT_len h2
      have g3 := wordT_len h3
      have g4 := cutT_len h4
      have g5 := wordT_len h5
      have g6 := cutT_len h6
      have g7 := wordT_len h7
      injection h8 with h8
      injection h8 with _ h8
      subst h8
      dsimp only at *
      rw [List.length_cons]
      omega
    · split at h
      · injection h with h; injection h with _ h; subst h; simp
      · split at h
        · injection h with h; injection h with _ h; subst h; simp
        · cases h
theorem head_app {a b : Bs} (h : a ≠ []) : (a ++ b).head? = a.head? := by
  cases a with
  | nil => exact absurd rfl h
  | cons x a => rfl
theorem valD_snoc (ds : Bs) (c : UInt8) : valD (ds ++ [c]) = 10 * valD ds + (c.toNat - 48) := by
  unfold valD; rw [List.foldl_append]; rfl
theorem valD_ge : ∀ (ds : Bs) (v : Nat), v ≤ ds.foldl (fun v c => 10 * v + (c.toNat - 48)) v
  | [], v => Nat.le_refl _
  | c :: ds, v => by
    have h := valD_ge ds (10 * v + (c.toNat - 48))
    rw [List.foldl_cons]; omega
theorem isDig_iff {c : UInt8} : isDig c = true ↔ 48 ≤ c.toNat ∧ c.toNat ≤ 57 := by
  unfold isDig; rw [Bool.and_eq_true, decide_eq_true_eq, decide_eq_true_eq]
theorem dig_nat {n : Nat} (h : n < 10) : (UInt8.ofNat (48 + n)).toNat = 48 + n := by
  rw [UInt8.toNat_ofNat']; omega
theorem digT_low {n : Nat} (h : n < 10) : digT n = [UInt8.ofNat (48 + n)] := by rw [digT, if_pos h]
theorem digT_high {n : Nat} (h : ¬ n < 10) : digT n = digT (n / 10) ++ [UInt8.ofNat (48 + n % 10)] := by rw [digT, if_neg h]
theorem digT_all : ∀ (n : Nat), (∀ c ∈ digT n, isDig c = true) ∧ valD (digT n) = n ∧ digT n ≠ [] ∧ (1 ≤ n → (digT n).head? ≠ some 48) := by
  intro n
  induction n using Nat.strongRecOn with
  | ind n ih =>
    by_cases h : n < 10
    · rw [digT_low h]
      refine ⟨fun c hc => ?_, ?_, by simp, fun h1 h2 => ?_⟩
      · rw [List.mem_singleton] at hc
        subst hc
        rw [isDig_iff, dig_nat h]; omega
      · unfold valD
        rw [List.foldl_cons, List.foldl_nil, dig_nat h]; omega
      · simp only [List.head?_cons, Option.some.injEq] at h2
        have h3 := congrArg UInt8.toNat h2
        rw [dig_nat h] at h3
        have h4 : (48 : UInt8).toNat = 48 := rfl
        omega
    · obtain ⟨g1, g2, g3, g4⟩ := ih (n / 10) (by omega)
      rw [digT_high h]
      refine ⟨fun c hc => ?_, ?_, by simp, fun _ => ?_⟩
      · rcases List.mem_append.1 hc with hc | hc
        · exact g1 c hc
        · rw [List.mem_singleton] at hc
          subst hc
          rw [isDig_iff, dig_nat (by omega)]; omega
      · rw [valD_snoc, g2, dig_nat (by omega)]; omega
      · rw [head_app g3]
        exact g4 (by omega)
theorem digT_short {n : Nat} (h : n ≤ 1000) : (digT n).length ≤ 4 := by
  by_cases h1 : n < 10
  · rw [digT_low h1]; simp
  · rw [digT_high h1]
    by_cases h2 : n / 10 < 10
    · rw [digT_low h2]; simp
    · rw [digT_high h2]
      by_cases h3 : n / 10 / 10 < 10
      · rw [digT_low h3]; simp
      · rw [digT_high h3, digT_low (by omega)]; simp
/-- digits that begin with no nought are those of their value -/
theorem digT_val : ∀ (k : Nat) (ds : Bs), ds.length = k + 1 → (∀ c ∈ ds, isDig c = true) → ds.head? ≠ some 48 → digT (valD ds) = ds ∧ 1 ≤ valD ds
  | 0, ds, hl, hd, h0 => by
    obtain ⟨c, rfl⟩ : ∃ c, ds = [c] := List.length_eq_one_iff.1 hl
    have h1 := isDig_iff.1 (hd c (by simp))
    have h2 : c.toNat ≠ 48 := fun e => h0 (by
      have : c = 48 := UInt8.toNat_inj.1 e
      rw [this]; rfl)
    have e : valD [c] = c.toNat - 48 := by
      unfold valD
      rw [List.foldl_cons, List.foldl_nil]; omega
    rw [e, digT_low (by omega)]
    refine ⟨?_, by omega⟩
    congr 1
    apply UInt8.toNat_inj.1
    rw [dig_nat (by omega)]; omega
  | k + 1, ds, hl, hd, h0 => by
    have hne : ds ≠ [] := by rintro rfl; cases hl
    obtain ⟨es, c, rfl⟩ : ∃ es c, ds = es ++ [c] := ⟨ds.dropLast, ds.getLast hne, (List.dropLast_concat_getLast hne).symm⟩
    have hes : es.length = k + 1 := by simpa using hl
    have hen : es ≠ [] := by rintro rfl; cases hes
    obtain ⟨g1, g2⟩ := digT_val k es hes (fun x hx => hd x (by simp [hx])) (by rw [head_app hen] at h0; exact h0)
    have h1 := isDig_iff.1 (hd c (by simp))
    rw [valD_snoc, digT_high (by omega)]
    have e1 : (10 * valD es + (c.toNat - 48)) / 10 = valD es := by omega
    have e2 : (10 * valD es + (c.toNat - 48)) % 10 = c.toNat - 48 := by omega
    rw [e1, e2, g1]
    refine ⟨?_, by omega⟩
    congr 2
    apply UInt8.toNat_inj.1
    rw [dig_nat (by omega)]; omega
theorem takeWhile_all (s : Bs) : ∀ c ∈ s.takeWhile isDig, isDig c = true := by
  induction s with
  | nil => intro c h; cases h
  | cons a s ih =>
    intro c h
    rw [List.takeWhile_cons] at h
    split at h
    · rcases List.mem_cons.1 h with rfl | h
      · assumption
      · exact ih c h
    · cases h
theorem numT_some {s r : Bs} {v : Nat} (h : numT s = some (v, r)) : s = digT v ++ r ∧ 1 ≤ v ∧ v ≤ 1000 := by
  unfold numT at h
  split at h
  · cases h
  · rename_i h1
    injection h with h
    injection h with h2 h3
    have e := List.takeWhile_append_dropWhile (p := isDig) (l := s)
    have hne : s.takeWhile isDig ≠ [] := fun e0 => h1 (.inl (by rw [e0]; rfl))
    have hh : (s.takeWhile isDig).head? ≠ some 48 := fun e0 => h1 (.inr (.inr (.inl (by rw [← e, head_app hne]; exact e0))))
    have hlen : 1 ≤ (s.takeWhile isDig).length := by
      rcases Nat.eq_zero_or_pos (s.takeWhile isDig).length with h0 | h0
      · exact absurd (.inl h0) h1
      · exact h0
    obtain ⟨g1, g2⟩ := digT_val ((s.takeWhile isDig).length - 1) (s.takeWhile isDig) (by omega) (takeWhile_all s) hh
    rw [h2] at g1 g2
    have h4 : valD (s.takeWhile isDig) ≤ 1000 := by
      rcases Nat.lt_or_ge 1000 (valD (s.takeWhile isDig)) with h0 | h0
      · exact absurd (.inr (.inr (.inr h0))) h1
      · exact h0
    refine ⟨?_, g2, by omega⟩
    rw [g1, ← h3]
    exact e.symm
theorem numT_app {n : Nat} {r : Bs} (h1 : 1 ≤ n) (h2 : n ≤ 1000) (hr : ∀ c, r.head? = some c → isDig c = false) : numT (digT n ++ r) = some (n, r) := by
  obtain ⟨g1, g2, g3, g4⟩ := digT_all n
  have hs := digT_short h2
  have e0 : r.takeWhile isDig = [] ∧ r.dropWhile isDig = r := by
    cases r with
    | nil => exact ⟨rfl, rfl⟩
    | cons c r =>
      have := hr c rfl
      rw [List.takeWhile_cons, List.dropWhile_cons, this]; exact ⟨rfl, rfl⟩
  have e1 : (digT n ++ r).takeWhile isDig = digT n := by rw [List.takeWhile_append_of_pos g1, e0.1, List.append_nil]
  have e2 : (digT n ++ r).dropWhile isDig = r := by rw [List.dropWhile_append_of_pos g1, e0.2]
  have hl : (digT n).length ≠ 0 := fun h => g3 (List.length_eq_zero_iff.1 h)
  unfold numT
  rw [e1, e2, g2, if_neg]
  rintro (h | h | h | h)
  · exact hl h
  · omega
  · rw [head_app g3] at h
    exact g4 h1 h
  · omega
/-- a text that has a tree is the text of that tree -/
theorem cut_text : ∀ {f : Nat} {s r : Bs} {t : Tree}, cutT f s = some (t, r) → s = textT t ++ r ∧ Right t
  | 0, _, _, _, h => by simp [cutT] at h
  | f + 1, [], _, _, h => by simp [cutT] at h
  | f + 1, c :: s, r, t, h => by
    unfold cutT at h
    split at h
    · rename_i hc
      simp only [Option.bind_eq_some_iff] at h
      obtain ⟨s1, h1, ⟨v, s2⟩, h2, s3, h3, ⟨a, s4⟩, h4, s5, h5, ⟨b, s6⟩, h6, s7, h7, h8⟩ := h
      have g1 := wordT_some h1
      obtain ⟨g2, v1, v2⟩ := numT_some h2
      have g3 := wordT_some h3
      obtain ⟨g4, ra⟩ := cut_text h4
      have g5 := wordT_some h5
      obtain ⟨g6, rb⟩ := cut_text h6
      have g7 := wordT_some h7
      injection h8 with h8
      injection h8 with h8 h9
      subst h8 h9
      dsimp only at *
      unfold isCut at hc
      simp only [Bool.and_eq_true, Bool.or_eq_true, beq_iff_eq] at hc
      refine ⟨?_, Right.cut _ v a b (by split <;> simp) v1 v2 ra rb⟩
      rw [g1, g2, g3, g4, g5, g6, g7]
      rcases hc.1 with rfl | rfl <;> simp [textT]
    · split at h
      · rename_i h1
        injection h with h; injection h with h h2; subst h h2 h1
        exact ⟨rfl, Right.waste⟩
      · split at h
        · rename_i h1
          injection h with h; injection h with h h2; subst h h2
          refine ⟨?_, Right.piece c.toNat h1.1 h1.2⟩
          simp [textT]
        · cases h
/-- the tree of the text of a tree is that tree -/
theorem text_cut {t : Tree} (hr : Right t) : ∀ {f : Nat} {r : Bs}, (textT t).length < f → r.head? ≠ some 32 → cutT f (textT t ++ r) = some (t, r) := by
  induction hr with
  | waste =>
    intro f r hf _
    obtain ⟨f, rfl⟩ : ∃ g, f = g + 1 := ⟨f - 1, by omega⟩
    simp [textT, cutT, isCut]
  | piece pc h1 h2 =>
    intro f r hf h0
    obtain ⟨f, rfl⟩ : ∃ g, f = g + 1 := ⟨f - 1, by omega⟩
    have e : (UInt8.ofNat pc).toNat = pc := by rw [UInt8.toNat_ofNat']; omega
    have e2 : textT (.node 1 0 pc []) = [UInt8.ofNat pc] := by simp [textT]
    have e3 : isCut (UInt8.ofNat pc) r = false := by
      unfold isCut
      have : (r.head? == some 32) = false := by
        rw [beq_eq_false_iff_ne]; exact h0
      rw [this, Bool.and_false]
    have e4 : UInt8.ofNat pc ≠ 95 := fun h => by
      have h3 := congrArg UInt8.toNat h
      rw [e] at h3
      have h4 : (95 : UInt8).toNat = 95 := rfl
      omega
    rw [e2, List.singleton_append]
    unfold cutT
    rw [if_neg (by rw [e3]; simp), if_neg e4, e, if_pos ⟨h1, h2⟩]
  | cut op n a b hop h1 h2 _ _ iha ihb =>
    intro f r hf h0
    obtain ⟨f, rfl⟩ : ∃ g, f = g + 1 := ⟨f - 1, by omega⟩
    have e : textT (.node op n 0 [a, b]) = (if op = 3 then [118, 32] else [104, 32]) ++ digT n ++ [32, 40] ++ textT a ++ [44, 32] ++ textT b ++ [41] := by simp [textT]
    have hl : (textT a).length < f ∧ (textT b).length < f := by
      rw [e] at hf
      simp only [List.length_append, List.length_cons, List.length_nil] at hf
      omega
    obtain ⟨cc, hcc, hcc2⟩ : ∃ cc : UInt8, (if op = 3 then [118, 32] else [104, 32] : Bs) = [cc, 32] ∧ ((cc == 104 || cc == 118) = true ∧ (if cc == 118 then (3 : Int) else 2) = op) := by
      rcases hop with rfl | rfl
      · exact ⟨104, by simp, by decide, by simp⟩
      · exact ⟨118, by simp, by decide, by simp⟩
    have e5 : textT (.node op n 0 [a, b]) ++ r = cc :: ([32] ++ (digT n ++ ([32, 40] ++ (textT a ++ ([44, 32] ++ (textT b ++ ([41] ++ r))))))) := by rw [e, hcc]; simp
    have e6 : isCut cc ([32] ++ (digT n ++ ([32, 40] ++ (textT a ++ ([44, 32] ++ (textT b ++ ([41] ++ r))))))) = true := by
      unfold isCut; rw [hcc2.1]; simp
    rw [e5]
    unfold cutT
    rw [if_pos e6, wordT_app, Option.bind_some, numT_app h1 h2 (fun c hc => by
      simp only [List.cons_append, List.head?_cons, Option.some.injEq] at hc
      subst hc; decide), Option.bind_some, wordT_app, Option.bind_some, iha hl.1 (by simp), Option.bind_some, wordT_app, Option.bind_some, ihb hl.2 (by simp), Option.bind_some, wordT_app, Option.bind_some, hcc2.2]
end Go.Proofs.YtecaaimaeaocbaaDoor
