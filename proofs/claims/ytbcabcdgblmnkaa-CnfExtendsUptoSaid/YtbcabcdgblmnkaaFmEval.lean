/- Contract of package logic: eval. -/
import Derived.Test.YtbcabcdgblmnkaaFmCount
import Derived.Test.YtbcabcdgblmnkaaBools
import Derived.Test.YtbcabcdgblmnkaaRegApp
import Derived.Deep.DeepCutAuto
namespace Go.Proofs.Ytbcabcdgblmnkaa
open Go.RowKit
set_option linter.unusedVariables false
set_option linter.unusedSimpArgs false

mutual
/-- the truth of a formula in form. -/
def evalF : Fm → List Bool → Bool
  | .mk k a sub, vals => if k = 1 then vals.getD a.toNat false else if k = 2 then evalN sub vals else if k = 3 then evalA sub vals else if k = 4 then evalO sub vals else decide (k = 5)
def evalN : List Fm → List Bool → Bool
  | [], _ => true
  | s :: _, vals => !(evalF s vals)
def evalA : List Fm → List Bool → Bool
  | [], _ => true
  | s :: ss, vals => evalF s vals && evalA ss vals
def evalO : List Fm → List Bool → Bool
  | [], _ => false
  | s :: ss, vals => evalF s vals || evalO ss vals
end
theorem evalA_any (fs : List Fm) (vals : List Bool) : evalA fs vals = !(fs.any fun f => !(evalF f vals)) := by
  induction fs with
  | nil => rfl
  | cons f fs ih => rw [evalA, ih]; simp
theorem evalO_any (fs : List Fm) (vals : List Bool) : evalO fs vals = fs.any fun f => evalF f vals := by
  induction fs with
  | nil => rfl
  | cons f fs ih => rw [evalO, ih]; simp
theorem shapeL_get (fs : List Fm) (n : Int) (h : shapeL fs n = true) (i : Nat) (f : Fm) (hf : fs[i]? = some f) : shapeF f n = true := by
  induction fs generalizing i with
  | nil => simp at hf
  | cons g fs ih =>
    rw [shapeL, Bool.and_eq_true] at h
    cases i with
    | zero => simp at hf; subst hf; exact h.1
    | succ i => exact ih h.2 i (by simpa using hf)

end Go.Proofs.Ytbcabcdgblmnkaa

namespace Go.Proofs.Ytbcabcdgblmnkaa
open Go.RowKit
set_option linter.unusedVariables false
set_option linter.unusedSimpArgs false


end Go.Proofs.Ytbcabcdgblmnkaa

namespace Go.Proofs.Ytbcabcdgblmnkaa
open Go.RowKit
set_option linter.unusedVariables false
set_option linter.unusedSimpArgs false

theorem checkF_ok {f : Fm} {n : Int} (h : checkF f n = 0) : shapeF f n = true := by
  unfold checkF at h
  split at h
  · cases h
  · split at h
    · assumption
    · cases h

/-- the parts of a formula, read in the blocks S alone. -/
inductive FOn (S : Nat → Prop) (w : World) : List Fm → Value → Prop
  | mk (A : Option Addr) (n c : Nat) (fs : List Fm) (ss : List Value) (hl : fs.length = n) (hs : ss.length = n) (hnc : n ≤ c) (hc : c ≤ maxLen) (hr : Rd w 3 A n (fCells fs ss))
      (hS : ∀ b o, 0 < n → A = some ⟨b, o, none⟩ → S b)
      (hsub : ∀ (i : Nat) (f : Fm) (s : Value), fs[i]? = some f → ss[i]? = some s → FOn S w f.sub s) : FOn S w fs (.slice A n c)
theorem FOn.fin {S : Nat → Prop} {w : World} {fs : List Fm} {v : Value} (h : FOn S w fs v) : FIn w fs v := by
  induction h with
  | mk A n c fs ss hl hs hnc hc hr hS hsub ih => exact .mk A n c fs ss hl hs hnc hc hr ih
theorem FOn.form {S : Nat → Prop} {w : World} {fs : List Fm} {v : Value} (h : FOn S w fs v) : ∃ A c, v = .slice A fs.length c ∧ fs.length ≤ c ∧ c ≤ maxLen := h.fin.form
theorem FOn.keep {S S' : Nat → Prop} {w w' : World} {fs : List Fm} {v : Value} (h : FOn S w fs v) (hk : ∀ p : Addr, p.block < w.heap.size → S p.block → w'.cell? p = w.cell? p) (hSS : ∀ b, b < w.heap.size → S b → S' b) : FOn S' w' fs v := by
  induction h with
  | mk A n c fs ss hl hs hnc hc hr hS hsub ih =>
    refine .mk A n c fs ss hl hs hnc hc ⟨hr.1, fun h0 => ?_⟩ (fun b o h0 e => ?_) ih
    · obtain ⟨b, off, e, hcell⟩ := hr.2 h0
      exact ⟨b, off, e, fun j u hu => (hk _ (World.block_lt_of_cell? w _ (hcell j u hu)) (hS b off h0 e)).trans (hcell j u hu)⟩
    · exact hSS b (hr.blk h0 (by decide) e) (hS b o h0 e)
theorem FOn.belo {S : Nat → Prop} {w w' : World} {fs : List Fm} {v : Value} (h : FOn S w fs v) (hb : Below w.heap.size w w') : FOn S w' fs v := h.keep (fun _ hp _ => hb.cell hp) (fun _ _ h => h)
theorem FOn.fr {S S' T : Nat → Prop} {w w' : World} {fs : List Fm} {v : Value} (h : FOn S w fs v) (hf : Fr T w w') (hT : ∀ b, S b → ¬ T b) (hSS : ∀ b, b < w.heap.size → S b → S' b) : FOn S' w' fs v :=
  h.keep (fun p hp hs => hf.cell hp (hT _ hs)) hSS
theorem FOn.nil (S : Nat → Prop) (w : World) : FOn S w [] (.slice none 0 0) := .mk none 0 0 [] [] rfl rfl (Nat.le_refl _) (by unfold maxLen; omega) Rd.none_ (fun b o h _ => by omega) (fun i f s h _ => by simp at h)
end Go.Proofs.Ytbcabcdgblmnkaa
