/- Truth at other atoms. No program in sight. -/
import Derived.Test.YtdpnififbpoagaaPlMore
import Derived.Test.YtdpnififbpoagaaAtWalk
namespace Go.Proofs.Ytdpnififbpoagaa
open Go.RowKit
set_option linter.unusedVariables false
set_option linter.unusedSimpArgs false

mutual
theorem eval_other (f : Fm) (n : Int) (vals : List Bool) (c : Nat) (v : Bool) (hs : shapeF f n = true) (hc : (c : Int) ∉ atomsF f) : evalF f (vals.set c v) = evalF f vals := by
  cases f with
  | mk k a sub =>
    rw [evalF, evalF]
    rw [shapeF] at hs
    rw [atomsF, List.mem_append, not_or] at hc
    by_cases k1 : k = 1
    · rw [if_pos k1] at hs hc
      rw [if_pos k1, if_pos k1]
      simp only [Bool.and_eq_true, decide_eq_true_eq] at hs
      have : c ≠ a.toNat := fun e => hc.1 (by rw [List.mem_singleton]; omega)
      rw [List.getD_eq_getElem?_getD, List.getD_eq_getElem?_getD, List.getElem?_set_ne this]
    rw [if_neg k1] at hs
    rw [if_neg k1, if_neg k1]
    by_cases k2 : k = 2
    · rw [if_neg (by omega), if_pos k2, Bool.and_eq_true] at hs
      rw [if_pos k2, if_pos k2]
      exact eval_otherN sub n vals c v hs.2 hc.2
    rw [if_neg k2, if_neg k2]
    by_cases k3 : k = 3
    · rw [if_neg (by omega), if_neg k2, if_pos (.inl k3)] at hs
      rw [if_pos k3, if_pos k3]
      exact eval_otherA sub n vals c v hs hc.2
    rw [if_neg k3, if_neg k3]
    by_cases k4 : k = 4
    · rw [if_neg (by omega), if_neg k2, if_pos (.inr k4)] at hs
      rw [if_pos k4, if_pos k4]
      exact eval_otherO sub n vals c v hs hc.2
    rw [if_neg k4, if_neg k4]
theorem eval_otherN (fs : List Fm) (n : Int) (vals : List Bool) (c : Nat) (v : Bool) (hs : shapeL fs n = true) (hc : (c : Int) ∉ atomsL fs) : evalN fs (vals.set c v) = evalN fs vals := by
  cases fs with
  | nil => rw [evalN, evalN]
  | cons f fs =>
    rw [shapeL, Bool.and_eq_true] at hs
    rw [atomsL, List.mem_append, not_or] at hc
    rw [evalN, evalN, eval_other f n vals c v hs.1 hc.1]
theorem eval_otherA (fs : List Fm) (n : Int) (vals : List Bool) (c : Nat) (v : Bool) (hs : shapeL fs n = true) (hc : (c : Int) ∉ atomsL fs) : evalA fs (vals.set c v) = evalA fs vals := by
  cases fs with
  | nil => rw [evalA, evalA]
  | cons f fs =>
    rw [shapeL, Bool.and_eq_true] at hs
    rw [atomsL, List.mem_append, not_or] at hc
    rw [evalA, evalA, eval_other f n vals c v hs.1 hc.1, eval_otherA fs n vals c v hs.2 hc.2]
theorem eval_otherO (fs : List Fm) (n : Int) (vals : List Bool) (c : Nat) (v : Bool) (hs : shapeL fs n = true) (hc : (c : Int) ∉ atomsL fs) : evalO fs (vals.set c v) = evalO fs vals := by
  cases fs with
  | nil => rw [evalO, evalO]
  | cons f fs =>
    rw [shapeL, Bool.and_eq_true] at hs
    rw [atomsL, List.mem_append, not_or] at hc
    rw [evalO, evalO, eval_other f n vals c v hs.1 hc.1, eval_otherO fs n vals c v hs.2 hc.2]
end
end Go.Proofs.Ytdpnififbpoagaa
