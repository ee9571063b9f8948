/- Parts of the proofs of this seat: BalEq. Each part says what it proves; no condition beyond those stated there. -/
import Derived.Test.YtehlbomkldnalaaGreatRows
import Derived.WalkSpells
import Derived.Test.YtehlbomkldnalaaGreatQ1

/- Balances compared. -/
namespace Go.Proofs.YtehlbomkldnalaaGreat
open Go Go.RowKit
theorem fields_bal : (Tryz.prog.fieldsOf 60).toList.map (fun f => (f.name == "_", f.type, f.offset)) = [(false, 3, 0), (false, 3, 1), (false, 3, 2), (false, 3, 3), (false, 3, 4)] := by kernel_rfl
set_option maxHeartbeats 4000000 in
theorem eq_bal (a b c d e a' b' c' d' e' : Int) (w : World) : (Op.equalIn 10000 60 (.agg #[a, b, c, d, e]) (.agg #[a', b', c', d', e'])).run Tryz.prog w = .ok (a == a' && (b == b' && (c == c' && (d == d' && e == e')))) w := by
 have hf := fields_bal
 rw [run_equalIn_struct w 9999 _ _ _ (by kernel_rfl) (by kernel_rfl)]
 obtain ⟨f0, f1, f2, f3, f4, hl, h0, h1, h2, h3, h4⟩ : ∃ f0 f1 f2 f3 f4, (Tryz.prog.fieldsOf 60).toList = [f0, f1, f2, f3, f4] ∧ ((f0.name == "_") = false ∧ f0.type = 3 ∧ f0.offset = 0) ∧ ((f1.name == "_") = false ∧ f1.type = 3 ∧ f1.offset = 1) ∧ ((f2.name == "_") = false ∧ f2.type = 3 ∧ f2.offset = 2) ∧ ((f3.name == "_") = false ∧ f3.type = 3 ∧ f3.offset = 3) ∧ ((f4.name == "_") = false ∧ f4.type = 3 ∧ f4.offset = 4) := by
  generalize (Tryz.prog.fieldsOf 60).toList = l at hf
  have hlen : l.length = 5 := by have := congrArg List.length hf; simpa using this
  match l, hlen, hf with
  | [f0, f1, f2, f3, f4], _, hf => simp only [List.map_cons, List.map_nil, List.cons.injEq, Prod.mk.injEq] at hf; exact ⟨f0, f1, f2, f3, f4, rfl, hf.1, hf.2.1, hf.2.2.1, hf.2.2.2.1, hf.2.2.2.2.1⟩
 rw [hl]
 have n0 : f0.name ≠ "_" := by simpa using h0.1
 have n1 : f1.name ≠ "_" := by simpa using h1.1
 have n2 : f2.name ≠ "_" := by simpa using h2.1
 have n3 : f3.name ≠ "_" := by simpa using h3.1
 have n4 : f4.name ≠ "_" := by simpa using h4.1
 by_cases e0 : a = a' <;> by_cases e1 : b = b' <;> by_cases e2 : c = c' <;> by_cases e3 : d = d' <;> by_cases e4 : e = e' <;>
  simp [Op.eqFields, n0, n1, n2, n3, n4, h0.2.1, h0.2.2, h1.2.1, h1.2.2, h2.2.1, h2.2.2, h3.2.1, h3.2.2, h4.2.1, h4.2.2, part, isAgg, run_underlying Tryz.underlying3, run_equalIn_int, e0, e1, e2, e3, e4]
end Go.Proofs.YtehlbomkldnalaaGreat
