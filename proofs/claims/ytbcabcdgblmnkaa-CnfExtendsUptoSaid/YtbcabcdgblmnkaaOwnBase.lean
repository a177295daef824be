/- What is owned, from another base on. No program in sight. -/
import Derived.Test.YtbcabcdgblmnkaaMem2
namespace Go.Proofs.Ytbcabcdgblmnkaa
open Go.RowKit

theorem own_base {w : World} {B : Nat} {E : TypeId} {size n : Nat} {v : Value} {xs : List Value} (h : w.ownsRow 0 E size v n xs) (hb : ∀ b, v.ownBlock = some b → B ≤ b) : w.ownsRow B E size v n xs := by
  refine ⟨h.1, ?_⟩
  rcases h.2 with h' | ⟨g, cap, cur, hv, _, hh, r⟩
  · exact .inl h'
  · exact .inr ⟨g, cap, cur, hv, hb g (by rw [hv]; rfl), hh, r⟩
end Go.Proofs.Ytbcabcdgblmnkaa
