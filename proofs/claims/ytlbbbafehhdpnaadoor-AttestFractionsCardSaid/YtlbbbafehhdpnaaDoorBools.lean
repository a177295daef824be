/- Slices of bools, in memory. -/
import Derived.Test.YtlbbbafehhdpnaaDoorRows
import Derived.Test.YtlbbbafehhdpnaaDoorMem
namespace Go.Proofs.YtlbbbafehhdpnaaDoor
open Go.RowKit

theorem full_blk {w : World} {B g n : Nat} {e : TypeId} {ys : List Value} (h : w.ownsRow B e 1 (.slice (some ⟨g, 0, none⟩) n n) n ys) : w.heap[g]? = some (.cells ys.toArray e (0, 0)) := by
  rcases h.2 with ⟨h', _⟩ | ⟨g', cap, cur, hv, _, hh, _, _, hs, ht⟩
  · cases h'
  · injection hv with h1 h2 h3
    injection h1 with h1
    injection h1 with h1
    subst h1; subst h3
    rw [hh]
    rw [List.take_of_length_le (by simp; omega)] at ht
    rw [← ht]
theorem info_bool : (Tryd.prog.info? 4).map (fun i => (i.zero, i.size, i.bytes)) = some (some (.bool false), 1, 1) := by kernel_rfl

def boolL (xs : List Bool) : List Value := xs.map Value.bool
end Go.Proofs.YtlbbbafehhdpnaaDoor
