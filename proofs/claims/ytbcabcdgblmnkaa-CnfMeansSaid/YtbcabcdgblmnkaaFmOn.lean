/- Contract of package logic: Eval. And formulas that lie in some blocks alone. -/
import Derived.Test.YtbcabcdgblmnkaaFmEval2
namespace Go.Proofs.Ytbcabcdgblmnkaa
open Go.RowKit
set_option linter.unusedVariables false
set_option linter.unusedSimpArgs false

theorem checkF_ok {f : Fm} {n : Int} (h : checkF f n = 0) : shapeF f n = true := by
  unfold checkF at h
  split at h
  · cases h
  · split at h
    · assumption
    · cases h

/-- the parts of a formula, read in the blocks S alone. -/
inductive FOn (S : Nat → Prop) (w : World) : List Fm → Value → Prop
  | mk (A : Option Addr) (n c : Nat) (fs : List Fm) (ss : List Value) (hl : fs.length = n) (hs : ss.length = n) (hnc : n ≤ c) (hc : c ≤ maxLen) (hr : Rd w 3 A n (fCells fs ss))
      (hS : ∀ b o, 0 < n → A = some ⟨b, o, none⟩ → S b)
      (hsub : ∀ (i : Nat) (f : Fm) (s : Value), fs[i]? = some f → ss[i]? = some s → FOn S w f.sub s) : FOn S w fs (.slice A n c)
theorem FOn.fin {S : Nat → Prop} {w : World} {fs : List Fm} {v : Value} (h : FOn S w fs v) : FIn w fs v := by
  induction h with
  | mk A n c fs ss hl hs hnc hc hr hS hsub ih => exact .mk A n c fs ss hl hs hnc hc hr ih
theorem FOn.form {S : Nat → Prop} {w : World} {fs : List Fm} {v : Value} (h : FOn S w fs v) : ∃ A c, v = .slice A fs.length c ∧ fs.length ≤ c ∧ c ≤ maxLen := h.fin.form
theorem FOn.keep {S S' : Nat → Prop} {w w' : World} {fs : List Fm} {v : Value} (h : FOn S w fs v) (hk : ∀ p : Addr, p.block < w.heap.size → S p.block → w'.cell? p = w.cell? p) (hSS : ∀ b, b < w.heap.size → S b → S' b) : FOn S' w' fs v := by
  induction h with
  | mk A n c fs ss hl hs hnc hc hr hS hsub ih =>
    refine .mk A n c fs ss hl hs hnc hc ⟨hr.1, fun h0 => ?_⟩ (fun b o h0 e => ?_) ih
    · obtain ⟨b, off, e, hcell⟩ := hr.2 h0
      exact ⟨b, off, e, fun j u hu => (hk _ (World.block_lt_of_cell? w _ (hcell j u hu)) (hS b off h0 e)).trans (hcell j u hu)⟩
    · exact hSS b (hr.blk h0 (by decide) e) (hS b o h0 e)
theorem FOn.belo {S : Nat → Prop} {w w' : World} {fs : List Fm} {v : Value} (h : FOn S w fs v) (hb : Below w.heap.size w w') : FOn S w' fs v := h.keep (fun _ hp _ => hb.cell hp) (fun _ _ h => h)
theorem FOn.fr {S S' T : Nat → Prop} {w w' : World} {fs : List Fm} {v : Value} (h : FOn S w fs v) (hf : Fr T w w') (hT : ∀ b, S b → ¬ T b) (hSS : ∀ b, b < w.heap.size → S b → S' b) : FOn S' w' fs v :=
  h.keep (fun p hp hs => hf.cell hp (hT _ hs)) hSS
theorem FOn.nil (S : Nat → Prop) (w : World) : FOn S w [] (.slice none 0 0) := .mk none 0 0 [] [] rfl rfl (Nat.le_refl _) (by unfold maxLen; omega) Rd.none_ (fun b o h _ => by omega) (fun i f s h _ => by simp at h)
end Go.Proofs.Ytbcabcdgblmnkaa
