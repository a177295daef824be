/- Formulas with negations at atoms alone: size, depth, form, truth. No program in sight. -/
import Derived.Test.YtdpnififbpoagaaFmMath
namespace Go.Proofs.Ytdpnififbpoagaa
open Go.RowKit
set_option linter.unusedVariables false
set_option linter.unusedSimpArgs false

mutual
theorem nnf_size (f : Fm) (neg : Bool) : sizeF (nnfF f neg) ≤ 2 * sizeF f := by
  cases f with
  | mk k a sub =>
    rw [nnfF]
    split
    · rw [sizeF]
      exact nnf_sizeH sub (!neg)
    · split
      · split
        · simp [sizeF, sizeL]; omega
        · simp [sizeF, sizeL]; omega
      · rw [sizeF, sizeF]
        have := nnf_sizeL sub neg
        omega
theorem nnf_sizeH (fs : List Fm) (neg : Bool) : sizeF (nnfH fs neg) ≤ 2 * (sizeL fs + 1) := by
  cases fs with
  | nil => rw [nnfH]; simp [sizeF, sizeL]
  | cons f fs =>
    rw [nnfH, sizeL]
    have := nnf_size f neg
    omega
theorem nnf_sizeL (fs : List Fm) (neg : Bool) : sizeL (nnfL fs neg) ≤ 2 * sizeL fs := by
  cases fs with
  | nil => rw [nnfL]; simp [sizeL]
  | cons f fs =>
    rw [nnfL, sizeL, sizeL]
    have := nnf_size f neg
    have := nnf_sizeL fs neg
    omega
end
mutual
theorem deep_mono (f : Fm) (d d' : Nat) (hd : d ≤ d') (h : deepF f d' = false) : deepF f d = false := by
  cases f with
  | mk k a sub =>
    rw [deepF] at h ⊢
    by_cases h2 : 200 < d'
    · rw [if_pos h2] at h; cases h
    · rw [if_neg h2] at h
      rw [if_neg (by omega)]
      exact deep_monoL sub (d + 1) (d' + 1) (by omega) h
theorem deep_monoL (fs : List Fm) (d d' : Nat) (hd : d ≤ d') (h : deepL fs d' = false) : deepL fs d = false := by
  cases fs with
  | nil => rw [deepL]
  | cons f fs =>
    rw [deepL, Bool.or_eq_false_iff] at h ⊢
    exact ⟨deep_mono f d d' hd h.1, deep_monoL fs d d' hd h.2⟩
end
theorem deep_le {f : Fm} {d : Nat} (h : deepF f d = false) : d ≤ 200 := by
  cases f with
  | mk k a sub =>
    rw [deepF] at h
    by_cases h2 : 200 < d
    · rw [if_pos h2] at h; cases h
    · omega
def ng (neg : Bool) : Nat := if neg = true then 1 else 0
mutual
theorem nnf_deep (f : Fm) (neg : Bool) (d : Nat) (n : Int) (hs : shapeF f n = true) (h : deepF f (d + ng neg) = false) : deepF (nnfF f neg) d = false := by
  cases f with
  | mk k a sub =>
    rw [shapeF] at hs
    rw [nnfF]
    by_cases k2 : k = 2
    · rw [if_pos k2]
      subst k2
      rw [if_neg (by decide), if_neg (by decide), if_pos rfl] at hs
      match sub, hs with
      | [g], hs =>
        have hg : shapeF g n = true := by simpa [shapeL] using hs
        rw [nnfH]
        refine nnf_deep g (!neg) d n hg ?_
        rw [deepF] at h
        by_cases h2 : 200 < d + ng neg
        · rw [if_pos h2] at h; cases h
        · rw [if_neg h2, deepL, Bool.or_eq_false_iff] at h
          refine deep_mono g _ _ ?_ h.1
          cases neg <;> simp [ng] <;> omega
    · rw [if_neg k2]
      have hle := deep_le h
      by_cases k1 : k = 1
      · rw [if_pos k1]
        cases neg with
        | true =>
          simp only [ng, if_true] at hle
          rw [if_pos rfl]
          simp only [deepF, deepL]
          rw [if_neg (by omega), if_neg (by omega)]
          rfl
        | false =>
          simp only [ng] at hle
          rw [if_neg (by simp)]
          simp only [deepF, deepL]
          rw [if_neg (by simpa using hle)]
      · rw [if_neg k1, deepF, if_neg (by omega)]
        rw [deepF, if_neg (by omega)] at h
        have hsh : shapeL sub n = true := by
          rw [if_neg k1] at hs
          by_cases k5 : k = 5 ∨ k = 6
          · rw [if_pos k5] at hs
            have : sub = [] := List.eq_nil_of_length_eq_zero (by simpa using hs)
            subst this; rfl
          · rw [if_neg k5, if_neg k2] at hs
            by_cases k3 : k = 3 ∨ k = 4
            · rw [if_pos k3] at hs; exact hs
            · rw [if_neg k3] at hs; cases hs
        exact nnf_deepL sub neg (d + 1) n hsh (by rw [show d + 1 + ng neg = d + ng neg + 1 by omega]; exact h)
theorem nnf_deepL (fs : List Fm) (neg : Bool) (d : Nat) (n : Int) (hs : shapeL fs n = true) (h : deepL fs (d + ng neg) = false) : deepL (nnfL fs neg) d = false := by
  cases fs with
  | nil => rw [nnfL, deepL]
  | cons f fs =>
    rw [shapeL, Bool.and_eq_true] at hs
    rw [deepL, Bool.or_eq_false_iff] at h
    rw [nnfL, deepL, Bool.or_eq_false_iff]
    exact ⟨nnf_deep f neg d n hs.1 h.1, nnf_deepL fs neg d n hs.2 h.2⟩
end
mutual
theorem nnf_shape (f : Fm) (neg : Bool) (n : Int) (hs : shapeF f n = true) : shapeF (nnfF f neg) n = true := by
  cases f with
  | mk k a sub =>
    rw [shapeF] at hs
    rw [nnfF]
    by_cases k2 : k = 2
    · rw [if_pos k2]
      subst k2
      rw [if_neg (by decide), if_neg (by decide), if_pos rfl] at hs
      match sub, hs with
      | [g], hs =>
        have hg : shapeF g n = true := by simpa [shapeL] using hs
        rw [nnfH]
        exact nnf_shape g (!neg) n hg
    · rw [if_neg k2]
      by_cases k1 : k = 1
      · rw [if_pos k1]
        subst k1
        rw [if_pos rfl] at hs
        simp only [Bool.and_eq_true, decide_eq_true_eq] at hs
        cases neg with
        | true => simp [shapeF, shapeL, hs.1, hs.2.1]
        | false => simp [shapeF, hs.1, hs.2.1]
      · rw [if_neg k1]
        rw [if_neg k1] at hs
        by_cases k5 : k = 5 ∨ k = 6
        · rw [if_pos k5] at hs
          have : sub = [] := List.eq_nil_of_length_eq_zero (by simpa using hs)
          subst this
          rw [nnfL]
          rcases k5 with rfl | rfl <;> cases neg <;> simp [shapeF, turnK]
        · rw [if_neg k5, if_neg k2] at hs
          by_cases k3 : k = 3 ∨ k = 4
          · rw [if_pos k3] at hs
            have hL := nnf_shapeL sub neg n hs
            rcases k3 with rfl | rfl <;> cases neg <;> simp [shapeF, turnK, hL]
          · rw [if_neg k3] at hs; cases hs
theorem nnf_shapeL (fs : List Fm) (neg : Bool) (n : Int) (hs : shapeL fs n = true) : shapeL (nnfL fs neg) n = true := by
  cases fs with
  | nil => rw [nnfL, shapeL]
  | cons f fs =>
    rw [shapeL, Bool.and_eq_true] at hs
    rw [nnfL, shapeL, Bool.and_eq_true]
    exact ⟨nnf_shape f neg n hs.1, nnf_shapeL fs neg n hs.2⟩
end
mutual
theorem nnf_eval (f : Fm) (neg : Bool) (n : Int) (vals : List Bool) (hs : shapeF f n = true) : evalF (nnfF f neg) vals = (evalF f vals ^^ neg) := by
  cases f with
  | mk k a sub =>
    rw [shapeF] at hs
    rw [nnfF, evalF]
    by_cases k2 : k = 2
    · rw [if_pos k2]
      subst k2
      rw [if_neg (by decide), if_neg (by decide), if_pos rfl] at hs
      rw [if_neg (by decide), if_pos rfl]
      match sub, hs with
      | [g], hs =>
        have hg : shapeF g n = true := by simpa [shapeL] using hs
        rw [nnfH, nnf_eval g (!neg) n vals hg, evalN]
        cases neg <;> simp
    · rw [if_neg k2]
      by_cases k1 : k = 1
      · rw [if_pos k1, if_pos k1]
        subst k1
        cases neg with
        | true => simp [evalF, evalN]
        | false => simp [evalF]
      · rw [if_neg k1, if_neg k1, if_neg k2]
        rw [if_neg k1] at hs
        by_cases k5 : k = 5 ∨ k = 6
        · rcases k5 with rfl | rfl <;> cases neg <;> simp [evalF, turnK]
        · rw [if_neg k5, if_neg k2] at hs
          by_cases k3 : k = 3 ∨ k = 4
          · rw [if_pos k3] at hs
            obtain ⟨hA, hO⟩ := nnf_evalL sub neg n vals hs
            rcases k3 with rfl | rfl <;> cases neg <;> simp [evalF, turnK, hA, hO] <;> simpa using ‹_›
          · rw [if_neg k3] at hs; cases hs
theorem nnf_evalL (fs : List Fm) (neg : Bool) (n : Int) (vals : List Bool) (hs : shapeL fs n = true) : (evalA (nnfL fs neg) vals = if neg = true then !(evalO fs vals) else evalA fs vals) ∧ (evalO (nnfL fs neg) vals = if neg = true then !(evalA fs vals) else evalO fs vals) := by
  cases fs with
  | nil => cases neg <;> simp [nnfL, evalA, evalO]
  | cons f fs =>
    rw [shapeL, Bool.and_eq_true] at hs
    rw [nnfL, evalA, evalA, evalO, evalO, nnf_eval f neg n vals hs.1]
    obtain ⟨hA, hO⟩ := nnf_evalL fs neg n vals hs.2
    rw [hA, hO]
    cases neg <;> simp
end
theorem nnf_check (f : Fm) (n : Int) (h : checkF f n = 0) (hs : sizeF f ≤ 400) : checkF (nnfF f false) n = 0 := by
  obtain ⟨hg, hsh⟩ := checkF_great h
  have h1 : great (nnfF f false) = false := by
    unfold great
    rw [nnf_deep f false 1 n hsh (great_deep hg), Bool.false_or, decide_eq_false_iff_not]
    have := nnf_size f false
    omega
  rw [checkF_eq, h1, nnf_shape f false n hsh, if_neg (by simp), if_pos rfl]
end Go.Proofs.Ytdpnififbpoagaa
