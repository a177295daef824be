/- Contracts of package intern: Reach, Node. -/
import Derived.Test.YtdpnififbpoagaaNodeEval
namespace Go.Proofs.Ytdpnififbpoagaa
open Go.RowKit
set_option linter.unusedVariables false
set_option linter.unusedSimpArgs false

/-- one step of looking for what a node stands on. -/
def stepNeed (ns : List Nd) (r : List Bool) (k : Nat) : List Bool :=
  if r.getD k false = true ∧ 4 ≤ (nd ns k).k then (if (nd ns k).k = 4 then r.set (nd ns k).a.toNat true else (r.set (nd ns k).a.toNat true).set (nd ns k).b.toNat true) else r
def downNeed (ns : List Nd) : Nat → List Bool → List Bool
  | 0, r => r
  | k + 1, r => downNeed ns k (stepNeed ns r k)
def need0 (i : Nat) : List Bool := (List.replicate (i + 1) false).set i true
def needN (ns : List Nd) (i : Nat) : List Bool := downNeed ns (i + 1) (need0 i)
def reachL (r : List Bool) (m : Nat) : List Nat := (List.range m).filter fun k => r.getD k false
def natL (xs : List Nat) : List Value := xs.map fun (k : Nat) => Value.int .i64 (k : Int)
theorem natL_length (xs : List Nat) : (natL xs).length = xs.length := by simp [natL]
theorem reachL_yes {r : List Bool} {m : Nat} (h : r.getD m false = true) : reachL r (m + 1) = reachL r m ++ [m] := by
  rw [List.getD_eq_getElem?_getD] at h
  simp [reachL, List.range_succ, h]
theorem reachL_no {r : List Bool} {m : Nat} (h : r.getD m false = false) : reachL r (m + 1) = reachL r m := by
  rw [List.getD_eq_getElem?_getD] at h
  simp [reachL, List.range_succ, h]
theorem reachL_length (r : List Bool) (m : Nat) : (reachL r m).length ≤ m := by
  have := List.length_filter_le (fun k => r.getD k false) (List.range m)
  simpa [reachL] using this
theorem stepNeed_length (ns : List Nd) (r : List Bool) (k : Nat) : (stepNeed ns r k).length = r.length := by
  unfold stepNeed
  split
  · split <;> simp
  · rfl
theorem downNeed_length (ns : List Nd) (k : Nat) (r : List Bool) : (downNeed ns k r).length = r.length := by
  induction k generalizing r with
  | zero => rfl
  | succ k ih => rw [downNeed, ih, stepNeed_length]
theorem need0_length (i : Nat) : (need0 i).length = i + 1 := by simp [need0]
theorem needN_length (ns : List Nd) (i : Nat) : (needN ns i).length = i + 1 := by rw [needN, downNeed_length, need0_length]

theorem boolRow_get (r : List Bool) (k : Nat) (h : k < r.length) : (boolL r).toArray[k]? = some (.bool (r.getD k false)) := by
  simp only [List.getElem?_toArray, boolL, List.getElem?_map, List.getElem?_eq_getElem h, List.getD_eq_getElem?_getD]
  rfl
theorem boolRow_set (r : List Bool) (k : Nat) (b : Bool) : (boolL r).toArray.setIfInBounds k (.bool b) = (boolL (r.set k b)).toArray := by
  simp [boolL]
theorem boolRow_zero (n : Nat) : List.replicate n (Value.bool false) = boolL (List.replicate n false) := by simp [boolL]

theorem node_out (tb mb : Nat) (sv : Value) (ns : List Nd) (i : Int) (w : World) (h : Tab w tb mb sv ns) (hi : inB ns i = false) :
    Calls Try.prog 41 #[.pointer (some ⟨tb, 0, none⟩), .int .i64 i] w fun e w' => e = .returned (.tuple #[.agg #[.int .i64 0, .int .i64 0, .int .i64 0], .bool false]) ∧ Below w.heap.size w w' := by
  have L := len_old tb mb sv ns _ (h.below ((Below.refl _ _).alloc (Nat.le_refl _) (.cells #[.int .i64 0, .int .i64 0, .int .i64 0] 33)))
  clear h
  have ho : i < 0 ∨ (ns.length : Int) ≤ i := by simp [inB] at hi; omega
  clear hi
  rcases ho with ho | ho
  · go_enter Try.func41, Try.ntmps41
    go_wp2_with fail
    refine bodyPost_ret (v := .tuple #[.agg #[.int .i64 0, .int .i64 0, .int .i64 0], .bool false]) (by simp [results, Try.results41, go_sem]) rfl ?_
    exact ⟨rfl, (Below.refl _ _).alloc (Nat.le_refl _) _⟩
  · have ho' : ¬ i < 0 := by omega
    go_enter Try.func41, Try.ntmps41
    go_wp2_with (go_at_call 20; refine L.mono ?_; rintro e w' ⟨rfl, rfl⟩)
    refine bodyPost_ret (v := .tuple #[.agg #[.int .i64 0, .int .i64 0, .int .i64 0], .bool false]) (by simp [results, Try.results41, go_sem]) rfl ?_
    exact ⟨rfl, (Below.refl _ _).alloc (Nat.le_refl _) _⟩
theorem node_in (tb mb : Nat) (sv : Value) (ns : List Nd) (i : Nat) (w : World) (h : Tab w tb mb sv ns) (hi : i < ns.length) :
    Calls Try.prog 41 #[.pointer (some ⟨tb, 0, none⟩), .int .i64 (i : Int)] w fun e w' => e = .returned (.tuple #[.agg #[.int .i64 (nd ns i).k, .int .i64 (nd ns i).a, .int .i64 (nd ns i).b], .bool true]) ∧ Below w.heap.size w w' := by
  have L := len_old tb mb sv ns _ (h.below ((Below.refl _ _).alloc (Nat.le_refl _) (.cells #[.int .i64 0, .int .i64 0, .int .i64 0] 33)))
  have hi0 : ¬ (i : Int) < 0 := by omega
  have hi1 : ¬ (ns.length : Int) ≤ i := by omega
  obtain ⟨c0, c1⟩ := h.cells
  have htb : tb < w.heap.size := lt_of_blk h.blk
  obtain ⟨g, cg, rfl, hg, hrd⟩ := h.rd
  obtain ⟨x0, x1, x2⟩ := hrd.nd3e i hi
  simp only [Nat.zero_add] at x0 x1 x2
  clear h hrd c1
  generalize nd ns i = X at *
  obtain ⟨xk, xa, xb⟩ := X
  simp only at x0 x1 x2 ⊢
  go_enter Try.func41, Try.ntmps41
  go_wp2_with (go_at_call 20; refine L.mono ?_; rintro e w' ⟨rfl, rfl⟩)
  refine bodyPost_ret (v := .tuple #[.agg #[.int .i64 xk, .int .i64 xa, .int .i64 xb], .bool true]) (by simp [results, Try.results41, go_sem]) rfl ?_
  exact ⟨rfl, (Below.refl _ _).alloc (Nat.le_refl _) _⟩
end Go.Proofs.Ytdpnififbpoagaa
