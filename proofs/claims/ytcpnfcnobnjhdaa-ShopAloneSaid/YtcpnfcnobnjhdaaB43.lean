/- Parts of the proofs of this seat: AloneP. Each part says what it proves; no condition beyond those stated there. -/
import Derived.Test.YtcpnfcnobnjhdaaB30
import Derived.Test.YtcpnfcnobnjhdaaB38
import Derived.Test.YtcpnfcnobnjhdaaB40

/- A shop with one job: the plain law of ShopAlone. -/
namespace Go.Proofs.Ytcpnfcnobnjhdaa
open Go Go.Sort Go.RowKit StabAt
/-- the shop with one job -/
def oneS (p : Shop) (st : List Step) : Shop := { p with jobs := [st] }
theorem one_valid {p : Shop} (h : validShop p = true) {j : Nat} {st : List Step} (hj : p.jobs[j]? = some st) : validShop (oneS p st) = true := by
  simp only [validShop, headOk, Bool.and_eq_true, decide_eq_true_eq] at h ⊢
  obtain ⟨⟨⟨⟨⟨⟨⟨⟨⟨h1, h2⟩, h3⟩, h4⟩, h5⟩, h6⟩, h7⟩, h8⟩, h9⟩, h10⟩ := h
  refine ⟨⟨⟨⟨⟨⟨⟨⟨⟨h1, h2⟩, h3⟩, h4⟩, h5⟩, h6⟩, by simp [oneS]⟩, h8⟩, h9⟩, ?_⟩
  have := List.all_eq_true.1 h10 st (List.mem_of_getElem? hj)
  simp only [oneS, List.all_cons, List.all_nil, Bool.and_true]
  exact this
theorem next_one (p : Shop) (st : List Step) (t m : Int) : nextF (oneS p st) t m = nextF p t m := rfl
theorem chain_one (p : Shop) (st : List Step) : ∀ (l : List Step) (t e : Int), chainSt (oneS p st) l t e = chainSt p l t e
  | [], _, _ => rfl
  | x :: l, t, e => by
    show chainSt (oneS p st) l _ _ = chainSt p l _ _
    rw [next_one, chain_one p st l]
section
variable {q : Shop} {st : List Step} {R : List At}
theorem one_j (hq : SeqOk (oneS q st) R) {a : At} (h : a ∈ R) : a.j = 0 ∧ st[a.k]? = some a.x := by
  obtain ⟨s, h1, h2⟩ := hq.ok a h
  have hj : a.j = 0 := by
    have := (List.getElem?_eq_some_iff.1 h1).1
    simp [oneS] at this; omega
  rw [hj] at h1
  simp [oneS] at h1
  subst h1
  exact ⟨hj, h2⟩
theorem one_k (hq : SeqOk (oneS q st) R) : ∀ (i : Nat) (a : At), R[i]? = some a → a.k = i
  | 0, a, h => by
    rcases hq.prev h with ⟨h1, _⟩ | ⟨k, h1, i', b, h2, _⟩
    · exact h1
    · omega
  | i + 1, a, h => by
    have hlt : i < R.length := by have := (List.getElem?_eq_some_iff.1 h).1; omega
    have hb : R[i]? = some R[i] := List.getElem?_eq_getElem hlt
    have hbk := one_k hq i _ hb
    have hja := (one_j hq (List.mem_of_getElem? h)).1
    have hjb := (one_j hq (List.mem_of_getElem? hb)).1
    rcases hq.prev h with ⟨_, h2⟩ | ⟨k, h1, i', b, h2, h3, h4, h5, h6⟩
    · have := lastP_none h2 R[i] (List.mem_of_getElem? (i := i) (by rw [List.getElem?_take, if_pos (by omega)]; exact hb))
      simp [ofJ, hja, hjb] at this
    · have e : lastP (ofJ a.j) (R.take (i + 1)) = some R[i] := by
        rw [List.take_add_one, hb]
        show lastP _ (R.take i ++ [R[i]]) = _
        rw [lastP_snoc, if_pos (by simp [ofJ, hja, hjb])]
      rw [e] at h6
      injection h6 with h6
      rw [← h6] at h5
      omega
theorem one_len (hq : SeqOk (oneS q st) R) : R.length = st.length := by
  rcases Nat.lt_trichotomy R.length st.length with h | h | h
  · obtain ⟨a, ha, _, hk⟩ := hq.all 0 R.length st _ (by simp [oneS]) (List.getElem?_eq_getElem h)
    obtain ⟨i, hi⟩ := List.getElem?_of_mem ha
    have := one_k hq i a hi
    have := (List.getElem?_eq_some_iff.1 hi).1
    omega
  · exact h
  · have ha : R[st.length]? = some R[st.length] := List.getElem?_eq_getElem h
    have h1 := one_k hq _ _ ha
    have h2 := (one_j hq (List.mem_of_getElem? ha)).2
    have := (List.getElem?_eq_some_iff.1 h2).1
    omega
theorem one_rdy (hq : SeqOk (oneS q st) R) {i : Nat} {a : At} (h : R[i]? = some a) : rdyR (R.take (i + 1)) 0 = a.dry := by
  rw [List.take_add_one, h]
  show rdyR (R.take i ++ [a]) 0 = _
  rw [rdyR_snoc, if_pos (one_j hq (List.mem_of_getElem? h)).1]
theorem one_dry (hv : VShop (oneS q st)) (hq : SeqOk (oneS q st) R) (hp : Placed (oneS q st) R) {i' : Nat} {b : At} (hb : R[i']? = some b) : ∀ (n : Nat) (a : At), R[i' + n]? = some a → b.dry ≤ a.dry
  | 0, a, h => by rw [Nat.add_zero, hb] at h; injection h with h; subst h; exact Int.le_refl _
  | n + 1, a, h => by
    have hlt : i' + n < R.length := by have := (List.getElem?_eq_some_iff.1 h).1; omega
    have hc : R[i' + n]? = some R[i' + n] := List.getElem?_eq_getElem hlt
    have ih := one_dry hv hq hp hb n _ hc
    have h1 := (start_ge hv hq hp (i := i' + n + 1) h).1
    have h2 := (fromR_ge hv hq hp (i' + n + 1) a).2
    rw [(one_j hq (List.mem_of_getElem? h)).1, one_rdy hq hc] at h2
    have h3 := hq.step hv (List.mem_of_getElem? h)
    have h4 : a.dry = a.t + a.x.mi + a.x.d := rfl
    omega
/-- where all steps have one colour the machine never holds a step up -/
theorem one_from (hv : VShop (oneS q st)) (hq : SeqOk (oneS q st) R) (hp : Placed (oneS q st) R) {c0 : Int} (hc : ∀ (k : Nat) x, st[k]? = some x → x.c = c0) {i : Nat} {a : At} (h : R[i]? = some a) : fromR (oneS q st) (R.take i) a = rdyR (R.take i) 0 := by
  have hja := one_j hq (List.mem_of_getElem? h)
  unfold fromR
  cases hl : lastP (onB a.x.m) (R.take i) with
  | none => show rdyR _ a.j = _; rw [hja.1]
  | some b =>
    show max (rdyR (R.take i) a.j) (roomF (oneS q st) b a.x.c) = _
    rw [hja.1]
    obtain ⟨i', h1, _, _⟩ := lastP_some hl
    obtain ⟨h2, h3⟩ := take_get h1
    have hjb := one_j hq (List.mem_of_getElem? h3)
    have hcol : b.x.c = a.x.c := by rw [hc _ _ hjb.2, hc _ _ hja.2]
    have hr : roomF (oneS q st) b a.x.c = b.end_ := by unfold roomF; rw [if_pos hcol]
    rw [hr]
    have hlt : i - 1 < R.length := by have := (List.getElem?_eq_some_iff.1 h).1; omega
    have hd : R[i - 1]? = some R[i - 1] := List.getElem?_eq_getElem hlt
    have h4 := one_dry hv hq hp h3 (i - 1 - i') _ (by rw [show i' + (i - 1 - i') = i - 1 by omega]; exact hd)
    have h5 := one_rdy hq hd
    rw [show i - 1 + 1 = i by omega] at h5
    have h6 := hq.step hv (List.mem_of_getElem? h3)
    have h7 : b.dry = b.t + b.x.mi + b.x.d := rfl
    have h8 : b.end_ = b.t + b.x.mi := rfl
    omega
theorem one_ends (hv : VShop (oneS q st)) (hq : SeqOk (oneS q st) R) (hp : Placed (oneS q st) R) {c0 : Int} (hc : ∀ (k : Nat) x, st[k]? = some x → x.c = c0) : ∀ (n i : Nat) (e : Int), st.length - i = n → e ≤ rdyR (R.take i) 0 →
    e ≤ chainSt (oneS q st) (st.drop i) (rdyR (R.take i) 0) e ∧ ∀ (i' : Nat) b, i ≤ i' → R[i']? = some b → b.end_ ≤ chainSt (oneS q st) (st.drop i) (rdyR (R.take i) 0) e
  | 0, i, e, hn, _ => by
    rw [List.drop_eq_nil_of_le (by omega)]
    refine ⟨Int.le_refl _, fun i' b hi hb => ?_⟩
    have h1 := (List.getElem?_eq_some_iff.1 hb).1
    have h2 := one_len hq
    omega
  | n + 1, i, e, hn, he => by
    have hlen := one_len hq
    have hx : st[i]? = some (st[i]'(by omega)) := List.getElem?_eq_getElem _
    have ha : R[i]? = some (R[i]'(by omega)) := List.getElem?_eq_getElem _
    generalize R[i]'(by omega) = a at ha
    have hk := one_k hq i a ha
    have hja := one_j hq (List.mem_of_getElem? ha)
    rw [hk] at hja
    rw [chainSt_drop hja.2]
    have ht : a.t = nextF (oneS q st) (rdyR (R.take i) 0) a.x.mi := by
      have := (hp i a ha).1
      unfold startF at this
      rw [one_from hv hq hp hc ha] at this
      exact this
    rw [← ht]
    have hr := one_rdy hq ha
    have hdry : a.t + a.x.mi + a.x.d = rdyR (R.take (i + 1)) 0 := hr.symm
    have hend : a.t + a.x.mi = a.end_ := rfl
    have hs := hq.step hv (List.mem_of_getElem? ha)
    have hge := (start_ge hv hq hp ha).1
    rw [one_from hv hq hp hc ha] at hge
    rw [hdry, hend]
    obtain ⟨g1, g2⟩ := one_ends hv hq hp hc n (i + 1) a.end_ (by omega) (by omega)
    refine ⟨by omega, fun i' b hi hb => ?_⟩
    rcases Nat.lt_or_ge i i' with h | h
    · exact g2 i' b h hb
    · obtain rfl : i = i' := by omega
      rw [ha] at hb
      injection hb with hb
      subst hb
      exact g1
end
/-- the end of one job alone is not before its chain, and is it where all steps have one colour -/
theorem alone_end {p : Shop} (hvB : validShop p = true) {j : Nat} {st : List Step} (hj : p.jobs[j]? = some st) :
    chainF p st ≤ endV (oneS p st) (dispF (oneS p st)) ∧ ((∃ c0, ∀ (k : Nat) x, st[k]? = some x → x.c = c0) → endV (oneS p st) (dispF (oneS p st)) = chainF p st) := by
  have hv := valid_facts (one_valid hvB hj)
  have hz := disp_judge hv
  have h1 := end_chain hv hz (j := 0) (l := st) (by simp [oneS])
  have h2 : chainF (oneS p st) st = chainF p st := chain_one p st st 0 0
  rw [h2] at h1
  refine ⟨h1, fun ⟨c0, hc⟩ => ?_⟩
  obtain ⟨R, hq, hp, hd⟩ := disp_placed hv
  have h3 : endV (oneS p st) (dispF (oneS p st)) = endL R 0 := by
    unfold endV rightL
    rw [if_pos hz, hd]
    exact endL_perm ((sortA_perm _).trans (planR_perm hq)) 0
  obtain ⟨_, _, h4⟩ := endL_is R 0
  obtain ⟨g1, g2⟩ := one_ends hv hq hp hc st.length 0 0 rfl (Int.le_refl _)
  have h5 : chainSt (oneS p st) (st.drop 0) (rdyR (R.take 0) 0) 0 = chainF p st := h2
  rw [h5] at g1 g2
  rw [h3] at h1 ⊢
  rcases h4 with h4 | ⟨a, ha, h4⟩
  · omega
  · obtain ⟨i, hi⟩ := List.getElem?_of_mem ha
    have := g2 i a (Nat.zero_le _) hi
    omega
end Go.Proofs.Ytcpnfcnobnjhdaa
