/- The atoms that a formula's table holds. No program in sight. -/
import Derived.Test.YtbcabcdgblmnkaaPlMath
import Derived.Test.YtbcabcdgblmnkaaNeedMath
namespace Go.Proofs.Ytbcabcdgblmnkaa
open Go.RowKit
set_option linter.unusedVariables false
set_option linter.unusedSimpArgs false

theorem atoms0 (n : Nat) : AtomsLt ns0 n := fun i hi h3 => by
  have : i = 0 ∨ i = 1 := by simp [ns0] at hi; omega
  rcases this with rfl | rfl <;> simp [ns0, nd] at h3
theorem AtomsLt.put {ns : List Nd} {n : Nat} (h : AtomsLt ns n) (x : Nd) (hx : x.k = 3 → 0 ≤ x.a ∧ x.a < n) : AtomsLt (putN ns x).1 n := by
  unfold putN
  cases hf : fidx ns x 0 with
  | some i => exact h
  | none =>
    by_cases hm : ns.length < 20000
    · simp only [hm, if_true]
      intro i hl hk
      rw [List.length_append] at hl
      simp at hl
      by_cases hlt : i < ns.length
      · rw [nd_append_lt _ _ _ hlt] at hk ⊢
        exact h i hlt hk
      · obtain rfl : i = ns.length := by omega
        rw [nd_snoc] at hk ⊢
        exact hx hk
    · simp only [hm, if_false]
      exact h
theorem AtomsLt.pair {ns : List Nd} {n : Nat} (h : AtomsLt ns n) (kind : Int) (a b u z : Nat) (hk : kind ≠ 3) : AtomsLt (pairN ns kind a b u z).1 n := by
  unfold pairN
  split
  · exact h
  split
  · exact h
  split
  · exact h
  exact h.put _ fun e => absurd e hk
theorem AtomsLt.doN {ns : List Nd} {n : Nat} (h : AtomsLt ns n) (o : Nd) (ho : o.k = 3 → o.a < n) : AtomsLt (doN ns o).1 n := by
  unfold Proofs.Ytbcabcdgblmnkaa.doN
  split
  · exact h
  split
  · exact h
  split
  · rename_i h3
    split
    · rename_i h0
      exact h.put _ fun _ => ⟨h0, ho h3⟩
    · exact h
  split
  · split
    · unfold notN
      split
      · exact h
      split
      · exact h
      split
      · exact h
      · exact h.put _ fun e => by simp at e
    · exact h
  split
  · rename_i h5
    split
    · exact h.pair _ _ _ _ _ (by omega)
    · exact h
  split
  · rename_i h6
    split
    · exact h.pair _ _ _ _ _ (by omega)
    · exact h
  · exact h
mutual
theorem place_atoms (f : Fm) (ns : List Nd) (n : Nat) (hs : shapeF f n = true) (h : AtomsLt ns n) : AtomsLt (placeF f ns).1 n := by
  cases f with
  | mk k a sub =>
    rw [placeF]
    rw [shapeF] at hs
    by_cases k1 : k = 1
    · rw [if_pos k1] at hs ⊢
      simp only [Bool.and_eq_true, decide_eq_true_eq] at hs
      exact h.doN _ fun _ => by simp only; omega
    rw [if_neg k1] at hs ⊢
    by_cases k2 : k = 2
    · rw [if_pos k2]
      rw [if_neg (by omega), if_pos k2, Bool.and_eq_true] at hs
      exact place_atomsN sub ns n hs.2 h
    rw [if_neg k2]
    by_cases k6 : k = 6
    · rw [if_pos k6]; exact h
    rw [if_neg k6]
    by_cases k5 : k = 5
    · rw [if_pos (.inl k5), decide_eq_true_eq] at hs
      have hsub : sub = [] := List.eq_nil_of_length_eq_zero hs
      subst hsub
      rw [if_neg (by omega), placeL]
      exact h
    rw [if_neg (by omega), if_neg k2] at hs
    by_cases k4 : k = 4
    · rw [if_pos (.inr k4)] at hs
      rw [if_pos k4]
      exact place_atomsL sub 6 ns 0 n (by omega) hs h
    · rw [if_neg k4]
      by_cases k3 : k = 3
      · rw [if_pos (.inl k3)] at hs
        exact place_atomsL sub 5 ns 1 n (by omega) hs h
      · rw [if_neg (by omega)] at hs
        cases hs
theorem place_atomsN (fs : List Fm) (ns : List Nd) (n : Nat) (hs : shapeL fs n = true) (h : AtomsLt ns n) : AtomsLt (placeN fs ns).1 n := by
  cases fs with
  | nil => rw [placeN]; exact h
  | cons f fs =>
    rw [placeN]
    rw [shapeL, Bool.and_eq_true] at hs
    exact (place_atoms f ns n hs.1 h).doN _ fun e => by simp at e
theorem place_atomsL (fs : List Fm) (kind : Int) (ns : List Nd) (m n : Nat) (hk : kind ≠ 3) (hs : shapeL fs n = true) (h : AtomsLt ns n) : AtomsLt (placeL fs kind ns m).1 n := by
  cases fs with
  | nil => rw [placeL]; exact h
  | cons f fs =>
    rw [placeL]
    rw [shapeL, Bool.and_eq_true] at hs
    exact place_atomsL fs kind _ _ n hk hs.2 ((place_atoms f ns n hs.1 h).doN _ fun e => absurd e hk)
end
theorem dans_lt {ns : List Nd} (h : Good ns) (o : Nd) : (dAns (doN ns o)).2 < (dAns (doN ns o)).1.length := by
  unfold dAns
  cases hj : (doN ns o).2 with
  | none => have := (h.doN o).two; simp only [Option.getD_none]; omega
  | some j => exact (do_ev h [] o j hj).1
mutual
theorem place_lt (f : Fm) (ns : List Nd) (h : Good ns) : (placeF f ns).2 < (placeF f ns).1.length := by
  have h2 := h.two
  cases f with
  | mk k a sub =>
    rw [placeF]
    split
    · exact dans_lt h _
    split
    · exact place_ltN sub ns h
    split
    · simp only; omega
    split
    · exact place_ltL sub _ ns 0 h (by omega)
    · exact place_ltL sub _ ns 1 h (by omega)
theorem place_ltN (fs : List Fm) (ns : List Nd) (h : Good ns) : (placeN fs ns).2 < (placeN fs ns).1.length := by
  have h2 := h.two
  cases fs with
  | nil => rw [placeN]; simp only; omega
  | cons f fs => rw [placeN]; exact dans_lt (place_good f ns h) _
theorem place_ltL (fs : List Fm) (kind : Int) (ns : List Nd) (n : Nat) (h : Good ns) (hn : n < ns.length) : (placeL fs kind ns n).2 < (placeL fs kind ns n).1.length := by
  cases fs with
  | nil => rw [placeL]; exact hn
  | cons f fs => rw [placeL]; exact place_ltL fs kind _ _ ((place_good f ns h).doN _) (dans_lt (place_good f ns h) _)
end
end Go.Proofs.Ytbcabcdgblmnkaa
