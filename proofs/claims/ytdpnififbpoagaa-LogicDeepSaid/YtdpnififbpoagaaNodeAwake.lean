/- attestlaw10.awake. -/
import Derived.Test.YtdpnififbpoagaaNodePlay2
namespace Go.Proofs.Ytdpnififbpoagaa
open Go.RowKit
set_option linter.unusedVariables false
set_option linter.unusedSimpArgs false

def awOps : List Nd := [⟨3, 5, 0⟩, ⟨3, 7, 0⟩, ⟨5, 3, 2⟩]
theorem aw_play : playN awOps = ([⟨1, 0, 0⟩, ⟨2, 0, 0⟩, ⟨3, 5, 0⟩, ⟨3, 7, 0⟩, ⟨5, 2, 3⟩], [2, 3, 4]) := by decide
theorem run_eql_nodes (x y : Nd) (w : World) : (Op.equal 33 (.agg #[.int .i64 x.k, .int .i64 x.a, .int .i64 x.b]) (.agg #[.int .i64 y.k, .int .i64 y.a, .int .i64 y.b])).run Try.prog w = .ok (decide (x = y)) w :=
  eq_nodes 33 x y w (by kernel_rfl) Try.underlying33
theorem rd_ops3 (w : World) (a b c : Nd) : Rd (w.alloc (.cells #[.int .i64 a.k, .int .i64 a.a, .int .i64 a.b, .int .i64 b.k, .int .i64 b.a, .int .i64 b.b, .int .i64 c.k, .int .i64 c.a, .int .i64 c.b] 36)) 3 (some ⟨w.heap.size, 0, none⟩) 3 (ndCells [a, b, c]) := by
  refine ⟨rfl, fun _ => ⟨w.heap.size, 0, rfl, fun j u hu => ?_⟩⟩
  rw [Nat.zero_add, cell_of_blk (heap_alloc_new w _) j]
  simpa [ndCells] using hu

set_option maxHeartbeats 2000000 in
theorem awake_any (w : World) :
    Calls Try.prog 18 #[] w fun e w' => e = .returned (.bool true) ∧ Below w.heap.size w w' := by
  have hc := play_any awOps _ 3 3 (w.alloc (.cells #[.int .i64 3, .int .i64 5, .int .i64 0, .int .i64 3, .int .i64 7, .int .i64 0, .int .i64 5, .int .i64 3, .int .i64 2] 36)) rfl (by decide) (rd_ops3 w ⟨3, 5, 0⟩ ⟨3, 7, 0⟩ ⟨5, 3, 2⟩)
  rw [aw_play] at hc
  have hq := run_eql_nodes ⟨5, 2, 3⟩ ⟨5, 2, 3⟩
  simp only at hq
  go_enter Try.func18, Try.ntmps18
  go_wp2_with (go_at_call 16; refine hc.mono ?_; rintro e w1 ⟨v1, v2, rfl, h1, h2, hb⟩; obtain ⟨A1, c1, rfl, _, r1⟩ := ownsRow_form h1; obtain ⟨A2, c2, rfl, _, r2⟩ := ownsRow_form h2; obtain ⟨b1, o1, rfl, q1⟩ := r1.2 (by decide); obtain ⟨b2, o2, rfl, q2⟩ := r2.2 (by decide); have k1 := q1 2 _ rfl; have k2 := q2 12 _ rfl; have k3 := q2 13 _ rfl; have k4 := q2 14 _ rfl; clear h1 h2 r1 r2 q1 q2)
  go_ret
  exact ⟨rfl, ((Below.refl _ _).alloc (Nat.le_refl _) _).trans (hb.mono (by simp))⟩
end Go.Proofs.Ytdpnififbpoagaa
