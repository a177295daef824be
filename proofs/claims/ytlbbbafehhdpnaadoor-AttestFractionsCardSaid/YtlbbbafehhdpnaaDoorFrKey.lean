/- Keys of rational numbers held against each other. -/
import Derived.Test.YtlbbbafehhdpnaaDoorRatI
import Derived.Laws.StructEq
namespace Go.Proofs.YtlbbbafehhdpnaaDoor
open Go.RowKit
set_option linter.unusedVariables false
set_option linter.unusedSimpArgs false

theorem run_eqKey (s1 s2 : Bool) (a b c d : ByteArray) (w : World) : (Op.equalIn 10000 65 (.agg #[.bool s1, .string a, .string b]) (.agg #[.bool s2, .string c, .string d])).run Tryd.prog w = .ok (s1 == s2 && (a.toList == c.toList && b.toList == d.toList)) w := by
  cases h1 : (s1 == s2) <;> cases h2 : (a.toList == c.toList) <;> go_simp
  by_cases h : b.toList = d.toList <;> simp [h]
theorem key_eq (p q : Rat) : (ratNeg p == ratNeg q && ((keyStr p.num.natAbs).toList == (keyStr q.num.natAbs).toList && (keyStr p.den).toList == (keyStr q.den).toList)) = decide (p = q) := by
  by_cases h : p = q
  · subst h
    simp
  · rw [decide_eq_false h, Bool.eq_false_iff]
    intro e
    simp only [Bool.and_eq_true, beq_iff_eq] at e
    obtain ⟨h1, h2, h3⟩ := e
    have inj : ∀ x y : ByteArray, x.toList = y.toList → x = y := fun x y e => by
      rw [ByteArray.toList_eq, ByteArray.toList_eq] at e
      obtain ⟨⟨x⟩⟩ := x
      obtain ⟨⟨y⟩⟩ := y
      simp at e
      subst e
      rfl
    exact h (rat_ext h1 (key_inj (inj _ _ h2)) (key_inj (inj _ _ h3)))
end Go.Proofs.YtlbbbafehhdpnaaDoor
