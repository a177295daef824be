/- Contract of package logic: eval. -/
import Derived.Test.YtbcabcdgblmnkaaFmCheck
import Derived.Test.YtbcabcdgblmnkaaBools
namespace Go.Proofs.Ytbcabcdgblmnkaa
open Go.RowKit
set_option linter.unusedVariables false
set_option linter.unusedSimpArgs false

mutual
/-- the truth of a formula in form. -/
def evalF : Fm → List Bool → Bool
  | .mk k a sub, vals => if k = 1 then vals.getD a.toNat false else if k = 2 then evalN sub vals else if k = 3 then evalA sub vals else if k = 4 then evalO sub vals else decide (k = 5)
def evalN : List Fm → List Bool → Bool
  | [], _ => true
  | s :: _, vals => !(evalF s vals)
def evalA : List Fm → List Bool → Bool
  | [], _ => true
  | s :: ss, vals => evalF s vals && evalA ss vals
def evalO : List Fm → List Bool → Bool
  | [], _ => false
  | s :: ss, vals => evalF s vals || evalO ss vals
end
theorem evalA_any (fs : List Fm) (vals : List Bool) : evalA fs vals = !(fs.any fun f => !(evalF f vals)) := by
  induction fs with
  | nil => rfl
  | cons f fs ih => rw [evalA, ih]; simp
theorem evalO_any (fs : List Fm) (vals : List Bool) : evalO fs vals = fs.any fun f => evalF f vals := by
  induction fs with
  | nil => rfl
  | cons f fs ih => rw [evalO, ih]; simp
theorem shapeL_get (fs : List Fm) (n : Int) (h : shapeL fs n = true) (i : Nat) (f : Fm) (hf : fs[i]? = some f) : shapeF f n = true := by
  induction fs generalizing i with
  | nil => simp at hf
  | cons g fs ih =>
    rw [shapeL, Bool.and_eq_true] at h
    cases i with
    | zero => simp at hf; subst hf; exact h.1
    | succ i => exact ih h.2 i (by simpa using hf)

end Go.Proofs.Ytbcabcdgblmnkaa
