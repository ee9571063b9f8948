/- The text of a tree: write and Format of the program. -/
import Derived.Test.YtecaaimaeaocbaaDoorKForm
import Derived.Shelf.Strings.BuilderK
import Derived.Shelf.Strings.BuilderF
import Derived.Lib.AppendIntMem
namespace Go.Proofs.YtecaaimaeaocbaaDoor
open Go Go.RowKit
/-- a builder that holds these bytes -/
def BIs (B b : Nat) (bs : Bs) (w : World) : Prop := Lib.IsBuilderF 114 5 B b (Lib.byteCells bs) w
abbrev OKp (b : Nat) (w w' : World) : Prop := Lib.OthersKept 5 (some b) w w'
def TabB (B : Nat) (w : World) : Prop := Lib.TabBelow Tryd.prog B w "internal/strconv.uint64pow10" .u64 Lib.pow10Tab
theorem BIs.lt {B b : Nat} {bs : Bs} {w : World} (h : BIs B b bs w) : b < w.heap.size := by rcases h with h | h <;> exact h.lt
theorem BIs.ge {B b : Nat} {bs : Bs} {w : World} (h : BIs B b bs w) : B ≤ b := by rcases h with h | h <;> exact h.1
theorem BIs.below {B b : Nat} {bs : Bs} {w w' : World} (h : BIs B b bs w) (hb : Below w.heap.size w w') : BIs B b bs w' := by
  have key : ∀ p, Lib.BuilderAtF 114 5 B b p (Lib.byteCells bs) w → Lib.BuilderAtF 114 5 B b p (Lib.byteCells bs) w' := fun p h => by
    have hlt := h.lt
    obtain ⟨hB, v, hv, hown, hne⟩ := h
    exact ⟨hB, v, (hb.block b hlt).trans hv, hown.kept (row := none) ⟨hb.os, hb.tape, hb.output, hb.size, fun k hk _ => hb.block k hk⟩ (Classical.em _), hne⟩
  exact h.elim (fun x => .inl (key _ x)) (fun x => .inr (key _ x))
theorem OKp.below {b : Nat} {a w w' : World} (h : OKp b a w) (hb : Below w.heap.size w w') : OKp b a w' := fun k o hk hb2 ho => by
  have h1 := h k o hk hb2 ho
  have hlt : k < w.heap.size := (Array.getElem?_eq_some_iff.1 h1).1
  exact (hb.block k hlt).trans h1
theorem Blk.okp {w w' : World} {g b : Nat} {t : TypeId} {cs : Array Value} (h : Blk w g t cs) (hO : OKp b w w') (hg : g ≠ b) (ht : t ≠ 5) : Blk w' g t cs :=
  hO g _ h (fun e => by injection e with e; exact hg e) (fun c fz e => by injection e with _ e; exact ht e)
theorem TreeAt.belowBB {w w' : World} {L B f : Nat} {t : Tree} {v : TV} (h : TreeAt w L B f t v) (hb : Below B w w') : TreeAt w' L B f t v :=
  h.keep (fun p _ hp => hb.cell hp) (Nat.le_refl _) (Nat.le_refl _)
theorem str_bytes (bs : Bs) (s : ByteArray) : Lib.byteCells bs ++ Lib.strCells s = Lib.byteCells (bs ++ byt s) := by
  unfold Lib.byteCells Lib.strCells byt; rw [List.map_append]
theorem bws_any (B b : Nat) (bs : Bs) (s : ByteArray) (w : World) (h : BIs B b bs w) (hlen : bs.length + s.size ≤ 2000000000) (hB : B ≤ w.heap.size) :
    Calls Tryd.prog 100 #[.pointer (some ⟨b, 0, none⟩), .string s] w fun e w' => e = .returned (.tuple #[.int .i64 s.size, .nilIface]) ∧ BIs B b (bs ++ byt s) w' ∧ Below B w w' ∧ OKp b w w' := by
  refine (Any.Builder_WriteString_k lays166 libExtra B b _ s w h (by rw [Lib.byteCells_length]; omega) hB).mono ?_
  rintro e w' ⟨rfl, h1, h2, h3⟩
  rw [str_bytes] at h1
  exact ⟨rfl, .inr h1, h2, h3⟩
theorem bwb_any (B b : Nat) (bs : Bs) (x : Nat) (w : World) (h : BIs B b bs w) (hx : x ≤ 255) (hlen : bs.length + 1 ≤ 2000000000) (hB : B ≤ w.heap.size) :
    Calls Tryd.prog 101 #[.pointer (some ⟨b, 0, none⟩), .int .u8 x] w fun e w' => e = .returned .nilIface ∧ BIs B b (bs ++ [UInt8.ofNat x]) w' ∧ Below B w w' ∧ OKp b w w' := by
  refine (Any.Builder_WriteByte_k lays167 libExtra B b _ x w h (by rw [Lib.byteCells_length]; omega) hB).mono ?_
  rintro e w' ⟨rfl, h1, h2, h3⟩
  have e : Lib.byteCells bs ++ [Value.int .u8 x] = Lib.byteCells (bs ++ [UInt8.ofNat x]) := by
    unfold Lib.byteCells
    rw [List.map_append]
    simp only [List.map_cons, List.map_nil]
    rw [UInt8.toNat_ofNat', show x % 2 ^ 8 = x by omega]
  rw [e] at h1
  exact ⟨rfl, .inr h1, h2, h3⟩
theorem dec_dig (n : Nat) : Lib.decDigits n = digT n := by
  induction n using Nat.strongRecOn with
  | ind n ih =>
    rw [Lib.decDigits, digT]
    by_cases h : n < 10
    · rw [dif_pos h, if_pos h]
    · rw [dif_neg h, if_neg h, ih (n / 10) (by omega)]
def digS (n : Nat) : ByteArray := ⟨(digT n).toArray⟩
theorem itoa_any (n : Nat) (hn : n ≤ 1000) (w : World) (htab : Lib.TabIs Tryd.prog w "internal/strconv.uint64pow10" .u64 Lib.pow10Tab) :
    Calls Tryd.prog 102 #[.int .i64 n] w fun e w' => e = .returned (.string (digS n)) ∧ Below w.heap.size w w' := by
  refine (Any.strconv_Itoa laysM171 n (by omega) (by omega) w htab).mono ?_
  rintro e w' ⟨rfl, k, os, rfl⟩
  refine ⟨?_, Lib.below_grow w.heap.size w (Nat.le_refl _) k os⟩
  have e : Lib.itoa (n : Int) = digT n := by
    unfold Lib.itoa
    rw [if_neg (by omega), Int.toNat_natCast, dec_dig]
  rw [e]; rfl
theorem cat_any (a b : ByteArray) (h : a.size + b.size ≤ 1000000000000) (w : World) : (binOp .add 9 (.string a) (.string b)).run Tryd.prog w = .ok (.string (a ++ b)) w := by
  rw [binOp_string_add]
  have hm : ¬ ((a.size + b.size : Nat) : Int) > IntKind.i64.max := by
    have : IntKind.i64.max = 9223372036854775807 := by decide
    omega
  unfold Op.stringOp
  simp only [hm, if_false]
  rfl
theorem byt_cat (a b : ByteArray) : byt (a ++ b) = byt a ++ byt b := by
  unfold byt; rw [ByteArray.data_append, Array.toList_append]
theorem size_cat (a b : ByteArray) : (a ++ b).size = a.size + b.size := by
  rw [← byt_len, byt_cat, List.length_append, byt_len, byt_len]
theorem byt_digS (n : Nat) : byt (digS n) = digT n := rfl
theorem byt_mk (l : Bs) : byt ⟨l.toArray⟩ = l := rfl
def WritePost (f B b : Nat) (bs : Bs) (t : Tree) (w : World) (e : Ending) (w' : World) : Prop :=
  ∃ bs' : Bs, e = .returned (.bool (rtT f t)) ∧ BIs B b bs' w' ∧ Below B w w' ∧ OKp b w w' ∧ bs'.length + 16 ≤ bs.length + 16 * 2 ^ f ∧ (rtT f t = true → bs' = bs ++ textT t)
def WriteAt (f : Nat) : Prop := ∀ (t : Tree) (op n pc : Int) (A : Option Addr) (k c B b : Nat) (bs : Bs) (w : World), TreeAt w 0 B f t ⟨op, n, pc, A, k, c⟩ → BIs B b bs w → B ≤ w.heap.size → TabB B w → bs.length + 16 * 2 ^ f ≤ 1000000000 →
  Calls Tryd.prog 78 #[.pointer (some ⟨b, 0, none⟩), .agg #[.int .i64 op, .int .i64 n, .int .u8 pc, .slice A k c]] w fun e w' => WritePost f B b bs t w e w'
theorem rt_node {f : Nat} {t : Tree} (h : rtT (f + 1) t = true) : Right t := rt_right h
theorem form_cases {t : Tree} (h : formB t = true) : (t.op = 0 ∧ t.n = 0 ∧ t.pc = 0 ∧ t.ts = []) ∨ (t.op = 1 ∧ t.n = 0 ∧ (∃ x : Nat, t.pc = x ∧ 97 ≤ x ∧ x ≤ 122) ∧ t.ts = []) ∨ ((t.op = 2 ∨ t.op = 3) ∧ (∃ n : Nat, t.n = n ∧ 1 ≤ n ∧ n ≤ 1000) ∧ t.pc = 0 ∧ ∃ a b, t.ts = [a, b]) := by
  obtain ⟨op, n, pc, ts⟩ := t
  replace h : formF op n pc ts.length = true := h
  unfold formF at h
  show (op = 0 ∧ n = 0 ∧ pc = 0 ∧ ts = []) ∨ (op = 1 ∧ n = 0 ∧ (∃ x : Nat, pc = x ∧ 97 ≤ x ∧ x ≤ 122) ∧ ts = []) ∨ ((op = 2 ∨ op = 3) ∧ (∃ m : Nat, n = m ∧ 1 ≤ m ∧ m ≤ 1000) ∧ pc = 0 ∧ ∃ a b, ts = [a, b])
  by_cases e0 : op = 0
  · rw [if_pos e0] at h
    simp only [Bool.and_eq_true, decide_eq_true_eq] at h
    exact .inl ⟨e0, h.1.1, h.1.2, List.length_eq_zero_iff.1 h.2⟩
  · rw [if_neg e0] at h
    by_cases e1 : op = 1
    · rw [if_pos e1] at h
      simp only [Bool.and_eq_true, decide_eq_true_eq] at h
      exact .inr (.inl ⟨e1, h.1.1, ⟨pc.toNat, by omega, by omega, by omega⟩, List.length_eq_zero_iff.1 h.2⟩)
    · rw [if_neg e1] at h
      by_cases e2 : op = 2 ∨ op = 3
      · rw [if_pos e2] at h
        simp only [Bool.and_eq_true, decide_eq_true_eq] at h
        refine .inr (.inr ⟨e2, ⟨n.toNat, by omega, by omega, by omega⟩, h.1.2, ?_⟩)
        match ts, h.2 with
        | [a, b], _ => exact ⟨a, b, rfl⟩
      · rw [if_neg e2] at h; cases h
theorem two_pow_le (f : Nat) : 32 ≤ 16 * 2 ^ (f + 1) := by
  have := Nat.one_le_two_pow (n := f)
  rw [Nat.pow_succ]; omega
set_option maxRecDepth 100000 in
set_option maxHeartbeats 4000000 in
theorem write_step (f : Nat) (hf : f ≤ 20) (H : WriteAt f) : WriteAt (f + 1) := by
  intro t op n pc A k c B b bs w hT hBs hsz0 hTab hlen
  obtain ⟨h1, h2, h3, h4, h5⟩ := hT.head
  dsimp only at h1 h2 h3 h4
  subst h4
  have H1 := hide h1
  have H2 := hide h2
  have H3 := hide h3
  have HH := hide H
  have hlen2 : bs.length + 32 ≤ 1000000000 := by have := two_pow_le f; omega
  have HLN := hide hlen
  have HP2 := hide (two_pow_le f)
  have hblt := hBs.lt
  have hbg := hBs.ge
  clear h1 h2 h3 H hlen
  have hb0 := (Below.refl w.heap.size w).alloc (Nat.le_refl _) (.cells #[.int .i64 op, .int .i64 n, .int .u8 pc, .slice A t.ts.length c] 60)
  have hk := Blk.new w 60 #[.int .i64 op, .int .i64 n, .int .u8 pc, .slice A t.ts.length c]
  replace hT := hT.belowBB (hb0.mono hsz0)
  replace hTab := hTab.on (hb0.mono hsz0)
  have hBl := hb0.mono hsz0
  have hO : OKp b w _ := OKp.below (Lib.OthersKept.refl _ _ w) hb0
  replace hBs := hBs.below hb0
  have hszW := Nat.le_trans hsz0 hb0.size
  clear hb0
  go_enter Tryd.func78, Tryd.ntmps78
  go_upto_region 1 with fail
  generalize w.alloc (.cells #[.int .i64 op, .int .i64 n, .int .u8 pc, .slice A t.ts.length c] 60) = W at *
  have q0 := hk.cell_ 0 (v := .int .i64 op) rfl
  have q1 := hk.cell_ 1 (v := .int .i64 n) rfl
  have q2 := hk.cell_ 2 (v := .int .u8 pc) rfl
  have q3 := hk.cell_ 3 (v := .slice A t.ts.length c) rfl
  obtain ⟨v, hv⟩ : ∃ v, formF op n pc t.ts.length = v := ⟨_, rfl⟩
  have HF : Hid (formB t = v) := by
    show formF _ _ _ _ = _
    rw [← H1.out, ← H2.out, ← H3.out]; exact hv
  have HV := hide hv
  clear hv
  go_wp2_with fail
  refine (formed_any op n pc A t.ts.length c W).mono ?_
  rintro e W2 ⟨rfl, hb⟩
  rw [HV.out]
  replace hk := hk.below hb hk.lt
  replace hT := hT.belowBB (hb.mono hszW)
  replace hTab := hTab.on (hb.mono hszW)
  replace hBl := hBl.trans (hb.mono hszW)
  replace hO := OKp.below hO hb
  replace hBs := hBs.below hb
  have hszX := Nat.le_trans hszW hb.size
  clear hb hszW
  have hszW := hszX
  clear hszX
  clear q0 q1 q2 q3
  obtain ⟨W, rfl⟩ : ∃ W : World, W = W2 := ⟨_, rfl⟩
  cases v with
  | false =>
    have HR : Hid (rtT (f + 1) t = false) := by
      show (formB t && t.ts.all (rtT f)) = false
      rw [HF.out]; rfl
    go_wp2_with fail
    go_ret
    exact ⟨bs, ret_bool HR.out.symm, hBs, hBl, hO, by have := HP2.out; omega, fun h => (by rw [HR.out] at h; cases h)⟩
  | true =>
    have q0 := hk.cell_ 0 (v := .int .i64 op) rfl
    rcases form_cases HF.out with ⟨c1, c2, c3, c4⟩ | ⟨c1, c2, ⟨x, c3, x1, x2⟩, c4⟩ | ⟨c1, ⟨m, c2, m1, m2⟩, c3, ta, tb, c4⟩
    · have g0 : (op == 0) = true := by rw [H1.out, c1]; rfl
      have HR : Hid (rtT (f + 1) t = true) := by
        show (formB t && t.ts.all (rtT f)) = true
        rw [HF.out, c4]; rfl
      have HT : Hid (textT t = [95]) := by
        obtain ⟨op', n', pc', ts'⟩ := t
        dsimp only [Tree.op, Tree.n, Tree.pc, Tree.ts] at c1 c2 c3 c4
        show textT _ = _
        rw [c1, c2, c3, c4]; rfl
      clear c1 c2 c3 c4
      go_wp2_with fail
      refine (bws_any B b _ _ W hBs (by show _ + 1 ≤ _; omega) hszW).mono ?_
      rintro e W2 ⟨rfl, hb2, hbl, hok⟩
      replace hk := hk.okp hok (by omega) (by decide)
      replace hT := hT.belowBB hbl
      replace hTab := hTab.on hbl
      replace hBl := hBl.trans hbl
      replace hO := hO.trans hok
      have hszW := Nat.le_trans hsz0 hBl.size
      clear hBs hbl hok
      have hBs := hb2
      clear hb2
      obtain ⟨W, rfl⟩ : ∃ W : World, W = W2 := ⟨_, rfl⟩
      clear q0
      go_wp2_with fail
      go_ret
      refine ⟨_, ret_bool HR.out.symm, hBs, hBl, hO, ?_, fun _ => by rw [HT.out]; rfl⟩
      have : (bs ++ byt ⟨#[95]⟩).length = bs.length + 1 := by rw [List.length_append]; rfl
      have := HP2.out
      omega
    · have g0 : (op == 0) = false := by rw [H1.out, c1]; rfl
      have g1 : (op == 1) = true := by rw [H1.out, c1]; rfl
      have hpc : pc = (x : Int) := by rw [H3.out, c3]
      have HR : Hid (rtT (f + 1) t = true) := by
        show (formB t && t.ts.all (rtT f)) = true
        rw [HF.out, c4]; rfl
      have HT : Hid (textT t = [UInt8.ofNat x]) := by
        obtain ⟨op', n', pc', ts'⟩ := t
        dsimp only [Tree.op, Tree.n, Tree.pc, Tree.ts] at c1 c2 c3 c4
        show textT _ = _
        rw [c1, c2, c3, c4]; simp [textT]
      have q2 := hk.cell_ 2 (v := .int .u8 pc) rfl
      rw [hpc] at q2
      clear c1 c2 c3 c4 hpc
      go_wp2_with fail
      refine (bwb_any B b _ x W hBs (by omega) (by omega) hszW).mono ?_
      rintro e W2 ⟨rfl, hb2, hbl, hok⟩
      replace hk := hk.okp hok (by omega) (by decide)
      replace hT := hT.belowBB hbl
      replace hTab := hTab.on hbl
      replace hBl := hBl.trans hbl
      replace hO := hO.trans hok
      have hszW := Nat.le_trans hsz0 hBl.size
      clear hBs hbl hok
      have hBs := hb2
      clear hb2
      obtain ⟨W, rfl⟩ : ∃ W : World, W = W2 := ⟨_, rfl⟩
      clear q0 q2
      go_wp2_with fail
      go_ret
      refine ⟨_, ret_bool HR.out.symm, hBs, hBl, hO, ?_, fun _ => by rw [HT.out]⟩
      have : (bs ++ [UInt8.ofNat x]).length = bs.length + 1 := by rw [List.length_append]; rfl
      have := HP2.out
      omega
    · have hn : n = (m : Int) := by rw [H2.out, c2]
      subst hn
      have HTS := hide c4
      have HDL : Hid ((digT m).length ≤ 4) := digT_short m2
      obtain ⟨X, hX⟩ : ∃ X, 16 * 2 ^ f = X := ⟨_, rfl⟩
      have HX := hide hX
      have hX16 : 16 ≤ X := by rw [← hX]; have := Nat.one_le_two_pow (n := f); omega
      have HX2 : Hid (16 * 2 ^ (f + 1) = 2 * X) := by show _ = _; rw [← hX, Nat.pow_succ]; omega
      have hlx : bs.length + 2 * X ≤ 1000000000 := by rw [← HX2.out]; exact HLN.out
      have g0 : (op == 0) = false := by rw [H1.out]; rcases c1 with c1 | c1 <;> rw [c1] <;> rfl
      have g1 : (op == 1) = false := by rw [H1.out]; rcases c1 with c1 | c1 <;> rw [c1] <;> rfl
      have HTT : Hid (textT t = (if op = 3 then [118, 32] else [104, 32]) ++ digT m ++ [32, 40] ++ textT ta ++ [44, 32] ++ textT tb ++ [41]) := by
        have ho := H1.out
        obtain ⟨op', n', pc', ts'⟩ := t
        dsimp only [Tree.op, Tree.n, Tree.pc, Tree.ts] at c1 c2 c3 c4 ho
        show textT _ = _
        rw [c2, c4, ho]
        simp [textT]
      by_cases o2 : op = 2
      · have g2 : (op == 2) = true := by simp [o2]
        have g3 : (op == 3) = false := by simp [o2]
        have HO3 : Hid ((if op = 3 then [118, 32] else [104, 32] : Bs) = [104, 32]) := by show _ = _; rw [if_neg (by omega)]
        rw [HO3.out] at HTT
        clear c1 c2 c3 c4 hX o2
        go_wp2_with fail
        refine (bws_any B b _ _ W hBs (by show _ + 2 ≤ _; omega) hszW).mono ?_
        rintro e W2 ⟨rfl, hb2, hbl, hok⟩
        replace hk := hk.okp hok (by omega) (by decide)
        replace hT := hT.belowBB hbl
        replace hTab := hTab.on hbl
        replace hBl := hBl.trans hbl
        replace hO := hO.trans hok
        have hszW := Nat.le_trans hsz0 hBl.size
        clear hBs hbl hok
        have hBs := hb2
        clear hb2
        obtain ⟨W, rfl⟩ : ∃ W : World, W = W2 := ⟨_, rfl⟩
        obtain ⟨c1, hcb⟩ : ∃ x, bs ++ byt ⟨#[104, 32]⟩ = x := ⟨_, rfl⟩
        rw [hcb] at hBs
        have lc1 : c1.length = bs.length + 2 := by rw [← hcb, List.length_append]; rfl
        have Hc1 := hide hcb
        clear hcb
        clear q0
        have q1 := hk.cell_ 1 (v := .int .i64 m) rfl
        go_wp2_with fail
        refine (itoa_any m m2 W hTab.here).mono ?_
        rintro e W2 ⟨rfl, hb⟩
        replace hk := hk.below hb hk.lt
        replace hT := hT.belowBB (hb.mono hszW)
        replace hTab := hTab.on (hb.mono hszW)
        replace hBl := hBl.trans (hb.mono hszW)
        replace hO := OKp.below hO hb
        replace hBs := hBs.below hb
        have hszX := Nat.le_trans hszW hb.size
        clear hb hszW
        have hszW := hszX
        clear hszX
        obtain ⟨W, rfl⟩ : ∃ W : World, W = W2 := ⟨_, rfl⟩
        have hds4 : (digS m).size ≤ 4 := by rw [← byt_len]; exact HDL.out
        have hnc : ¬ 9223372036854775807 < (digS m).size + 2 := by omega
        obtain ⟨D2, hD2⟩ : ∃ D2, digS m ++ ⟨#[32, 40]⟩ = D2 := ⟨_, rfl⟩
        have HD2 : Hid (byt D2 = digT m ++ [32, 40]) := by show _ = _; rw [← hD2, byt_cat]; rfl
        have hd2 : D2.size = (digT m).length + 2 := by rw [← byt_len, HD2.out, List.length_append]; rfl
        have hdl := HDL.out
        clear q1
        go_wp2_with fail
        refine (bws_any B b _ D2 W hBs (by omega) hszW).mono ?_
        rintro e W2 ⟨rfl, hb2, hbl, hok⟩
        replace hk := hk.okp hok (by omega) (by decide)
        replace hT := hT.belowBB hbl
        replace hTab := hTab.on hbl
        replace hBl := hBl.trans hbl
        replace hO := hO.trans hok
        have hszW := Nat.le_trans hsz0 hBl.size
        clear hBs hbl hok
        have hBs := hb2
        clear hb2
        obtain ⟨W, rfl⟩ : ∃ W : World, W = W2 := ⟨_, rfl⟩
        clear hD2 hds4 hnc
        obtain ⟨c2, hcb⟩ : ∃ x, c1 ++ byt D2 = x := ⟨_, rfl⟩
        rw [hcb] at hBs
        have lc2 : c2.length = c1.length + D2.size := by rw [← hcb, List.length_append]; rw [byt_len]
        have Hc2 := hide hcb
        clear hcb
        have hfew : (0 : Int) < (t.ts.length : Int) ∧ (1 : Int) < (t.ts.length : Int) := by rw [HTS.out]; simp
        obtain ⟨hfew0, hfew1⟩ := hfew
        obtain ⟨t', o1, n1, p1, A1, k1, d1, pb, off, ht, hA, _, hT1, e0, e1, e2, e3⟩ := part_at hT (i := 0) (by rw [HTS.out]; simp)
        dsimp only at hA
        rw [HTS.out] at ht
        injection ht with ht
        subst ht hA
        have q3 := hk.cell_ 3 rfl
        simp only [Nat.zero_mul, Nat.add_zero] at e0 e1 e2 e3
        obtain ⟨va, hva⟩ : ∃ va, rtT f ta = va := ⟨_, rfl⟩
        have HVA := hide hva
        clear hva
        go_wp2_with fail
        refine (HH.out ta o1 n1 p1 A1 k1 d1 B b c2 W hT1 hBs hszW hTab (by rw [HX.out]; omega)).mono ?_
        rintro e W2 ⟨c3, rfl, hb2, hbl, hok, hl3, hc3⟩
        rw [HVA.out]
        rw [HX.out] at hl3
        rw [HVA.out] at hc3
        replace hk := hk.okp hok (by omega) (by decide)
        replace hT := hT.belowBB hbl
        replace hTab := hTab.on hbl
        replace hBl := hBl.trans hbl
        replace hO := hO.trans hok
        have hszW := Nat.le_trans hsz0 hBl.size
        clear hBs hbl hok q3 e0 e1 e2 e3 hT1
        have hBs := hb2
        clear hb2
        have HC3 := hide hc3
        clear hc3
        obtain ⟨W, rfl⟩ : ∃ W : World, W = W2 := ⟨_, rfl⟩
        cases va with
        | false =>
          have HR : Hid (rtT (f + 1) t = false) := by
            show (formB t && t.ts.all (rtT f)) = false
            rw [HTS.out, List.all_cons, HVA.out]; simp
          go_wp2_with fail
          go_ret
          exact ⟨c3, ret_bool HR.out.symm, hBs, hBl, hO, by rw [HX2.out]; omega, fun h => (by rw [HR.out] at h; cases h)⟩
        | true =>
          go_wp2_with fail
          refine (bws_any B b _ _ W hBs (by show _ + 2 ≤ _; omega) hszW).mono ?_
          rintro e W2 ⟨rfl, hb2, hbl, hok⟩
          replace hk := hk.okp hok (by omega) (by decide)
          replace hT := hT.belowBB hbl
          replace hTab := hTab.on hbl
          replace hBl := hBl.trans hbl
          replace hO := hO.trans hok
          have hszW := Nat.le_trans hsz0 hBl.size
          clear hBs hbl hok
          have hBs := hb2
          clear hb2
          obtain ⟨W, rfl⟩ : ∃ W : World, W = W2 := ⟨_, rfl⟩
          obtain ⟨c4, hcb⟩ : ∃ x, c3 ++ byt ⟨#[44, 32]⟩ = x := ⟨_, rfl⟩
          rw [hcb] at hBs
          have lc4 : c4.length = c3.length + 2 := by rw [← hcb, List.length_append]; rfl
          have Hc4 := hide hcb
          clear hcb
          obtain ⟨t', o1, n1, p1, A1, k1, d1, pb2, off2, ht, hA, _, hT1, e0, e1, e2, e3⟩ := part_at hT (i := 1) (by rw [HTS.out]; simp)
          rw [HTS.out] at ht
          injection ht with ht
          dsimp only at hA
          injection hA with hA
          injection hA with hA1 hA2
          subst ht hA1 hA2
          have q3 := hk.cell_ 3 rfl
          simp only [Nat.one_mul] at e0 e1 e2 e3
          have e1' := e1
          have e2' := e2
          have e3' := e3
          simp only [Nat.add_assoc, Nat.reduceAdd] at e1' e2' e3'
          obtain ⟨vb, hvb⟩ : ∃ vb, rtT f tb = vb := ⟨_, rfl⟩
          have HVB := hide hvb
          clear hvb
          go_wp2_with fail
          refine (HH.out _ o1 n1 p1 A1 k1 d1 B b c4 W hT1 hBs hszW hTab (by rw [HX.out]; omega)).mono ?_
          rintro e W2 ⟨c5, rfl, hb2, hbl, hok, hl5, hc5⟩
          rw [HVB.out]
          rw [HX.out] at hl5
          rw [HVB.out] at hc5
          replace hk := hk.okp hok (by omega) (by decide)
          replace hT := hT.belowBB hbl
          replace hTab := hTab.on hbl
          replace hBl := hBl.trans hbl
          replace hO := hO.trans hok
          have hszW := Nat.le_trans hsz0 hBl.size
          clear hBs hbl hok q3 e0 e1 e2 e3 e1' e2' e3' hT1
          have hBs := hb2
          clear hb2
          have HC5 := hide hc5
          clear hc5
          obtain ⟨W, rfl⟩ : ∃ W : World, W = W2 := ⟨_, rfl⟩
          cases vb with
          | false =>
            have HR : Hid (rtT (f + 1) t = false) := by
              show (formB t && t.ts.all (rtT f)) = false
              rw [HTS.out, List.all_cons, List.all_cons, HVB.out]; simp
            go_wp2_with fail
            go_ret
            exact ⟨c5, ret_bool HR.out.symm, hBs, hBl, hO, by rw [HX2.out]; omega, fun h => (by rw [HR.out] at h; cases h)⟩
          | true =>
            have HR : Hid (rtT (f + 1) t = true) := by
              show (formB t && t.ts.all (rtT f)) = true
              rw [HF.out, HTS.out, List.all_cons, List.all_cons, HVA.out, HVB.out]; rfl
            go_wp2_with fail
            refine (bws_any B b _ _ W hBs (by show _ + 1 ≤ _; omega) hszW).mono ?_
            rintro e W2 ⟨rfl, hb2, hbl, hok⟩
            replace hk := hk.okp hok (by omega) (by decide)
            replace hT := hT.belowBB hbl
            replace hTab := hTab.on hbl
            replace hBl := hBl.trans hbl
            replace hO := hO.trans hok
            have hszW := Nat.le_trans hsz0 hBl.size
            clear hBs hbl hok
            have hBs := hb2
            clear hb2
            obtain ⟨W, rfl⟩ : ∃ W : World, W = W2 := ⟨_, rfl⟩
            obtain ⟨c6, hcb⟩ : ∃ x, c5 ++ byt ⟨#[41]⟩ = x := ⟨_, rfl⟩
            rw [hcb] at hBs
            have lc6 : c6.length = c5.length + 1 := by rw [← hcb, List.length_append]; rfl
            have Hc6 := hide hcb
            clear hcb
            go_wp2_with fail
            go_ret
            refine ⟨c6, ret_bool HR.out.symm, hBs, hBl, hO, by rw [HX2.out]; omega, fun _ => ?_⟩
            rw [HTT.out, ← Hc6.out, HC5.out trivial, ← Hc4.out, HC3.out trivial, ← Hc2.out, ← Hc1.out, HD2.out]
            simp [byt]
      · have o3 : op = 3 := by rw [H1.out] at o2 ⊢; omega
        have g2 : (op == 2) = false := by simp [o2]
        have g3 : (op == 3) = true := by simp [o3]
        have HO3 : Hid ((if op = 3 then [118, 32] else [104, 32] : Bs) = [118, 32]) := by show _ = _; rw [if_pos o3]
        rw [HO3.out] at HTT
        clear c1 c2 c3 c4 hX o2 o3
        go_wp2_with fail
        refine (bws_any B b _ _ W hBs (by show _ + 2 ≤ _; omega) hszW).mono ?_
        rintro e W2 ⟨rfl, hb2, hbl, hok⟩
        replace hk := hk.okp hok (by omega) (by decide)
        replace hT := hT.belowBB hbl
        replace hTab := hTab.on hbl
        replace hBl := hBl.trans hbl
        replace hO := hO.trans hok
        have hszW := Nat.le_trans hsz0 hBl.size
        clear hBs hbl hok
        have hBs := hb2
        clear hb2
        obtain ⟨W, rfl⟩ : ∃ W : World, W = W2 := ⟨_, rfl⟩
        obtain ⟨c1, hcb⟩ : ∃ x, bs ++ byt ⟨#[118, 32]⟩ = x := ⟨_, rfl⟩
        rw [hcb] at hBs
        have lc1 : c1.length = bs.length + 2 := by rw [← hcb, List.length_append]; rfl
        have Hc1 := hide hcb
        clear hcb
        clear q0
        have q1 := hk.cell_ 1 (v := .int .i64 m) rfl
        go_wp2_with fail
        refine (itoa_any m m2 W hTab.here).mono ?_
        rintro e W2 ⟨rfl, hb⟩
        replace hk := hk.below hb hk.lt
        replace hT := hT.belowBB (hb.mono hszW)
        replace hTab := hTab.on (hb.mono hszW)
        replace hBl := hBl.trans (hb.mono hszW)
        replace hO := OKp.below hO hb
        replace hBs := hBs.below hb
        have hszX := Nat.le_trans hszW hb.size
        clear hb hszW
        have hszW := hszX
        clear hszX
        obtain ⟨W, rfl⟩ : ∃ W : World, W = W2 := ⟨_, rfl⟩
        have hds4 : (digS m).size ≤ 4 := by rw [← byt_len]; exact HDL.out
        have hnc : ¬ 9223372036854775807 < (digS m).size + 2 := by omega
        obtain ⟨D2, hD2⟩ : ∃ D2, digS m ++ ⟨#[32, 40]⟩ = D2 := ⟨_, rfl⟩
        have HD2 : Hid (byt D2 = digT m ++ [32, 40]) := by show _ = _; rw [← hD2, byt_cat]; rfl
        have hd2 : D2.size = (digT m).length + 2 := by rw [← byt_len, HD2.out, List.length_append]; rfl
        have hdl := HDL.out
        clear q1
        go_wp2_with fail
        refine (bws_any B b _ D2 W hBs (by omega) hszW).mono ?_
        rintro e W2 ⟨rfl, hb2, hbl, hok⟩
        replace hk := hk.okp hok (by omega) (by decide)
        replace hT := hT.belowBB hbl
        replace hTab := hTab.on hbl
        replace hBl := hBl.trans hbl
        replace hO := hO.trans hok
        have hszW := Nat.le_trans hsz0 hBl.size
        clear hBs hbl hok
        have hBs := hb2
        clear hb2
        obtain ⟨W, rfl⟩ : ∃ W : World, W = W2 := ⟨_, rfl⟩
        clear hD2 hds4 hnc
        obtain ⟨c2, hcb⟩ : ∃ x, c1 ++ byt D2 = x := ⟨_, rfl⟩
        rw [hcb] at hBs
        have lc2 : c2.length = c1.length + D2.size := by rw [← hcb, List.length_append]; rw [byt_len]
        have Hc2 := hide hcb
        clear hcb
        have hfew : (0 : Int) < (t.ts.length : Int) ∧ (1 : Int) < (t.ts.length : Int) := by rw [HTS.out]; simp
        obtain ⟨hfew0, hfew1⟩ := hfew
        obtain ⟨t', o1, n1, p1, A1, k1, d1, pb, off, ht, hA, _, hT1, e0, e1, e2, e3⟩ := part_at hT (i := 0) (by rw [HTS.out]; simp)
        dsimp only at hA
        rw [HTS.out] at ht
        injection ht with ht
        subst ht hA
        have q3 := hk.cell_ 3 rfl
        simp only [Nat.zero_mul, Nat.add_zero] at e0 e1 e2 e3
        obtain ⟨va, hva⟩ : ∃ va, rtT f ta = va := ⟨_, rfl⟩
        have HVA := hide hva
        clear hva
        go_wp2_with fail
        refine (HH.out ta o1 n1 p1 A1 k1 d1 B b c2 W hT1 hBs hszW hTab (by rw [HX.out]; omega)).mono ?_
        rintro e W2 ⟨c3, rfl, hb2, hbl, hok, hl3, hc3⟩
        rw [HVA.out]
        rw [HX.out] at hl3
        rw [HVA.out] at hc3
        replace hk := hk.okp hok (by omega) (by decide)
        replace hT := hT.belowBB hbl
        replace hTab := hTab.on hbl
        replace hBl := hBl.trans hbl
        replace hO := hO.trans hok
        have hszW := Nat.le_trans hsz0 hBl.size
        clear hBs hbl hok q3 e0 e1 e2 e3 hT1
        have hBs := hb2
        clear hb2
        have HC3 := hide hc3
        clear hc3
        obtain ⟨W, rfl⟩ : ∃ W : World, W = W2 := ⟨_, rfl⟩
        cases va with
        | false =>
          have HR : Hid (rtT (f + 1) t = false) := by
            show (formB t && t.ts.all (rtT f)) = false
            rw [HTS.out, List.all_cons, HVA.out]; simp
          go_wp2_with fail
          go_ret
          exact ⟨c3, ret_bool HR.out.symm, hBs, hBl, hO, by rw [HX2.out]; omega, fun h => (by rw [HR.out] at h; cases h)⟩
        | true =>
          go_wp2_with fail
          refine (bws_any B b _ _ W hBs (by show _ + 2 ≤ _; omega) hszW).mono ?_
          rintro e W2 ⟨rfl, hb2, hbl, hok⟩
          replace hk := hk.okp hok (by omega) (by decide)
          replace hT := hT.belowBB hbl
          replace hTab := hTab.on hbl
          replace hBl := hBl.trans hbl
          replace hO := hO.trans hok
          have hszW := Nat.le_trans hsz0 hBl.size
          clear hBs hbl hok
          have hBs := hb2
          clear hb2
          obtain ⟨W, rfl⟩ : ∃ W : World, W = W2 := ⟨_, rfl⟩
          obtain ⟨c4, hcb⟩ : ∃ x, c3 ++ byt ⟨#[44, 32]⟩ = x := ⟨_, rfl⟩
          rw [hcb] at hBs
          have lc4 : c4.length = c3.length + 2 := by rw [← hcb, List.length_append]; rfl
          have Hc4 := hide hcb
          clear hcb
          obtain ⟨t', o1, n1, p1, A1, k1, d1, pb2, off2, ht, hA, _, hT1, e0, e1, e2, e3⟩ := part_at hT (i := 1) (by rw [HTS.out]; simp)
          rw [HTS.out] at ht
          injection ht with ht
          dsimp only at hA
          injection hA with hA
          injection hA with hA1 hA2
          subst ht hA1 hA2
          have q3 := hk.cell_ 3 rfl
          simp only [Nat.one_mul] at e0 e1 e2 e3
          have e1' := e1
          have e2' := e2
          have e3' := e3
          simp only [Nat.add_assoc, Nat.reduceAdd] at e1' e2' e3'
          obtain ⟨vb, hvb⟩ : ∃ vb, rtT f tb = vb := ⟨_, rfl⟩
          have HVB := hide hvb
          clear hvb
          go_wp2_with fail
          refine (HH.out _ o1 n1 p1 A1 k1 d1 B b c4 W hT1 hBs hszW hTab (by rw [HX.out]; omega)).mono ?_
          rintro e W2 ⟨c5, rfl, hb2, hbl, hok, hl5, hc5⟩
          rw [HVB.out]
          rw [HX.out] at hl5
          rw [HVB.out] at hc5
          replace hk := hk.okp hok (by omega) (by decide)
          replace hT := hT.belowBB hbl
          replace hTab := hTab.on hbl
          replace hBl := hBl.trans hbl
          replace hO := hO.trans hok
          have hszW := Nat.le_trans hsz0 hBl.size
          clear hBs hbl hok q3 e0 e1 e2 e3 e1' e2' e3' hT1
          have hBs := hb2
          clear hb2
          have HC5 := hide hc5
          clear hc5
          obtain ⟨W, rfl⟩ : ∃ W : World, W = W2 := ⟨_, rfl⟩
          cases vb with
          | false =>
            have HR : Hid (rtT (f + 1) t = false) := by
              show (formB t && t.ts.all (rtT f)) = false
              rw [HTS.out, List.all_cons, List.all_cons, HVB.out]; simp
            go_wp2_with fail
            go_ret
            exact ⟨c5, ret_bool HR.out.symm, hBs, hBl, hO, by rw [HX2.out]; omega, fun h => (by rw [HR.out] at h; cases h)⟩
          | true =>
            have HR : Hid (rtT (f + 1) t = true) := by
              show (formB t && t.ts.all (rtT f)) = true
              rw [HF.out, HTS.out, List.all_cons, List.all_cons, HVA.out, HVB.out]; rfl
            go_wp2_with fail
            refine (bws_any B b _ _ W hBs (by show _ + 1 ≤ _; omega) hszW).mono ?_
            rintro e W2 ⟨rfl, hb2, hbl, hok⟩
            replace hk := hk.okp hok (by omega) (by decide)
            replace hT := hT.belowBB hbl
            replace hTab := hTab.on hbl
            replace hBl := hBl.trans hbl
            replace hO := hO.trans hok
            have hszW := Nat.le_trans hsz0 hBl.size
            clear hBs hbl hok
            have hBs := hb2
            clear hb2
            obtain ⟨W, rfl⟩ : ∃ W : World, W = W2 := ⟨_, rfl⟩
            obtain ⟨c6, hcb⟩ : ∃ x, c5 ++ byt ⟨#[41]⟩ = x := ⟨_, rfl⟩
            rw [hcb] at hBs
            have lc6 : c6.length = c5.length + 1 := by rw [← hcb, List.length_append]; rfl
            have Hc6 := hide hcb
            clear hcb
            go_wp2_with fail
            go_ret
            refine ⟨c6, ret_bool HR.out.symm, hBs, hBl, hO, by rw [HX2.out]; omega, fun _ => ?_⟩
            rw [HTT.out, ← Hc6.out, HC5.out trivial, ← Hc4.out, HC3.out trivial, ← Hc2.out, ← Hc1.out, HD2.out]
            simp [byt]
theorem write_all : ∀ f, f ≤ 20 → WriteAt f
  | 0, _ => fun t op n pc A k c B b bs w h => h.elim
  | f + 1, h => write_step f (by omega) (write_all f (by omega))
end Go.Proofs.YtecaaimaeaocbaaDoor
