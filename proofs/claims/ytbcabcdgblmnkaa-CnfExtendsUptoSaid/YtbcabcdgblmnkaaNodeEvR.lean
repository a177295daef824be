/- The parts of a node lie ahead of it. No program in sight. -/
import Derived.Test.YtbcabcdgblmnkaaNodeEv
namespace Go.Proofs.Ytbcabcdgblmnkaa
open Go.RowKit
set_option linter.unusedVariables false
set_option linter.unusedSimpArgs false

theorem Good.lt {ns : List Nd} (h : Good ns) (i : Nat) (hi : i < ns.length) : ((nd ns i).k = 3 → 0 ≤ (nd ns i).a) ∧ ((nd ns i).k = 4 → 0 ≤ (nd ns i).a ∧ (nd ns i).a < i) ∧ ((nd ns i).k = 5 ∨ (nd ns i).k = 6 → 0 ≤ (nd ns i).a ∧ (nd ns i).a < i ∧ 0 ≤ (nd ns i).b ∧ (nd ns i).b < i) := by
  by_cases h2 : 2 ≤ i
  · rcases h.parts i h2 hi with ⟨h1, h3, _⟩ | ⟨h1, h3, h4, _⟩ | ⟨h1, h3, h4, h5⟩
    · exact ⟨fun _ => h3, fun e => by omega, fun e => by omega⟩
    · exact ⟨fun e => by omega, fun _ => ⟨by omega, h4⟩, fun e => by omega⟩
    · exact ⟨fun e => by omega, fun e => by omega, fun _ => ⟨by omega, by omega, by omega, h5⟩⟩
  · have : i = 0 ∨ i = 1 := by omega
    rcases this with rfl | rfl
    · rw [h.n0]; simp
    · rw [h.n1]; simp

end Go.Proofs.Ytbcabcdgblmnkaa
