/- The walk of attesttop.AttestShifts, as the statement's arguments are read. -/
import Derived.Test.YtlbbbafehhdpnaaDoorShWalk
import Derived.Test.YtlbbbafehhdpnaaDoorOpen
namespace Go.Proofs.YtlbbbafehhdpnaaDoor
open Go.RowKit
set_option linter.unusedVariables false

theorem nats32 {xs : List Int} (h : ∀ x ∈ xs, (Lit.int .u32 x).wf = true) : ∃ us : List Nat, xs = us.map (fun (u : Nat) => (u : Int)) ∧ small us := by
  induction xs with
  | nil => exact ⟨[], rfl, small_nil⟩
  | cons x xs ih =>
    obtain ⟨us, e, hs⟩ := ih fun y hy => h y (by simp [hy])
    obtain ⟨hx1, hx2⟩ := b_u32 (h x (by simp))
    refine ⟨x.toNat :: us, ?_, small_cons.2 ⟨?_, hs⟩⟩
    · rw [List.map_cons, ← e]
      congr 1
      omega
    · omega
theorem num_of {w : World} {A : Option Addr} {n c : Nat} {xs : List Int} (hl : xs.length = n) (hnc : n ≤ c) (hrd : Rd w 1 A n (xs.map (Value.int .u32))) (hwf : ∀ x ∈ xs, (Lit.int .u32 x).wf = true) : ∃ us : List Nat, us.length = n ∧ Num w A n c us := by
  obtain ⟨us, rfl, hs⟩ := nats32 hwf
  have hl' : us.length = n := by simpa using hl
  refine ⟨us, hl', ?_, hl', hnc, hs⟩
  rw [List.map_map] at hrd
  exact hrd
theorem shifts_law (A : Option Addr) (n c : Nat) (xs : List Int) (hl : xs.length = n) (hnc : n ≤ c) (hb : c * 4 ≤ 140737488351232) (w : World) (hrd : Rd w 1 A n (xs.map (Value.int .u32))) (hwf : ∀ x ∈ xs, (Lit.int .u32 x).wf = true) (K : Int) (wK : (Lit.int .i64 K).wf = true) :
    Calls Tryd.prog 3 #[.slice A n c, .int .i64 K] w fun e w' => e = .returned (.bool true) ∧ Below w.heap.size w w' := by
  obtain ⟨us, hul, hn⟩ := num_of hl hnc hrd hwf
  obtain ⟨k1, k2⟩ := b_i64 wK
  exact shifts_walk us A n c K w hn (by omega) (by omega) (by omega)
end Go.Proofs.YtlbbbafehhdpnaaDoor
