/- A row of limbs that is written within a window: the block holds the row and, behind it, spare cells. -/
import Derived.Test.YtlbbbafehhdpnaaDoorNatMul
import Derived.Test.YtlbbbafehhdpnaaDoorLongMath2
namespace Go.Proofs.YtlbbbafehhdpnaaDoor
open Go.RowKit
set_option linter.unusedVariables false
set_option linter.unusedSimpArgs false

theorem putWin_get (u x : List Nat) (j i : Nat) (hj : j ≤ u.length) (hi : i < x.length) : (putWin u j x).getD (j + i) 0 = x.getD i 0 := by
  have h : (u.take j).length = j := by rw [List.length_take]; omega
  rw [List.getD_eq_getElem?_getD, List.getD_eq_getElem?_getD, putWin, List.append_assoc, List.getElem?_append_right (by omega), h, Nat.add_sub_cancel_left, List.getElem?_append_left hi]
theorem putWin_set (u x : List Nat) (j i y : Nat) (hj : j ≤ u.length) (hi : i < x.length) : (putWin u j x).set (j + i) y = putWin u j (x.set i y) := by
  have h : (u.take j).length = j := by rw [List.length_take]; omega
  rw [putWin, putWin, List.append_assoc, List.set_append_right _ _ (by omega), h, Nat.add_sub_cancel_left, List.set_append_left _ _ hi, List.append_assoc, List.length_set]
theorem putWin_self (u : List Nat) (j n : Nat) (h : j + n + 1 ≤ u.length) : putWin u j (win u j n) = u := by
  rw [putWin, win_len u j n h, List.append_assoc, win, ← List.drop_drop, List.take_append_drop, List.take_append_drop]
theorem putWin_put (u x y : List Nat) (j : Nat) (hx : j + x.length ≤ u.length) (h : x.length = y.length) : putWin (putWin u j x) j y = putWin u j y := by
  rw [putWin, putWin_take _ _ _ (by omega), ← List.drop_drop, putWin_drop _ _ _ hx, ← h, List.drop_left, putWin, h]
theorem win_put (u x : List Nat) (j n : Nat) (hx : j + x.length ≤ u.length) (h : x.length = n + 1) : win (putWin u j x) j n = x := by
  rw [win, putWin_drop _ _ _ hx, ← h, List.take_left]

structure WRow (g : Nat) (tl : List Value) (w wr : World) (L : List Nat) : Prop where
  blk : wr.heap[g]? = some (.cells (lw L ++ tl).toArray 25 (0, 0))
  fr : Fr (fun b => b = g) w wr
theorem WRow.cell {g : Nat} {tl : List Value} {w wr : World} {L : List Nat} (h : WRow g tl w wr L) (k : Nat) (hk : k < L.length) : wr.cell? ⟨g, k, none⟩ = some (.int .u32 ((L.getD k 0 : Nat) : Int)) ∧ wr.frozen? ⟨g, k, none⟩ = false :=
  ⟨(cell_of_blk h.blk k).trans (by rw [List.getElem?_toArray, List.getElem?_append_left (by rw [lw_length]; exact hk)]; exact lw_getD L k hk), frozen_of_blk h.blk k⟩
theorem WRow.set {g : Nat} {tl : List Value} {w wr : World} {L : List Nat} (h : WRow g tl w wr L) (k v : Nat) (hk : k < L.length) : WRow g tl w (wr.setCell ⟨g, k, none⟩ (.int .u32 (v : Int))) (L.set k v) := by
  refine ⟨?_, h.fr.setCell ⟨g, k, none⟩ _ (.inl rfl)⟩
  rw [set_blk h.blk k]
  congr 2
  simp only [List.setIfInBounds_toArray]
  rw [List.set_append_left _ _ (by rw [lw_length]; exact hk)]
  simp [lw, List.map_set]
/-- an owned row that isn't empty is such a row. -/
theorem WRow.of {w : World} {B n : Nat} {v : Value} {L : List Nat} (h : w.ownsRow B 25 1 v n (lw L)) (hn : 0 < n) : ∃ g tl c, v = .slice (some ⟨g, 0, none⟩) n c ∧ n ≤ c ∧ B ≤ g ∧ g < w.heap.size ∧ n + tl.length = c ∧ c ≤ maxLen ∧ WRow g tl w w L := by
  rcases h.2 with ⟨rfl, h0⟩ | ⟨g, cap, cur, rfl, hb, hg, hnc, hm, hs, ht⟩
  · omega
  · refine ⟨g, cur.toList.drop n, cap, rfl, hnc, hb, (Array.getElem?_eq_some_iff.1 hg).1, ?_, hm, ?_, Fr.refl _ _⟩
    · rw [List.length_drop, Array.length_toList]; omega
    · rw [Nat.mul_one] at ht
      rw [← ht, List.take_append_drop, Array.toArray_toList]; exact hg
theorem WRow.own {w wr : World} {B g n c : Nat} {tl : List Value} {L : List Nat} (h : WRow g tl w wr L) (hB : B ≤ g) (hl : L.length = n) (hc : n + tl.length = c) (hm : c ≤ maxLen) : wr.ownsRow B 25 1 (.slice (some ⟨g, 0, none⟩) n c) n (lw L) := by
  refine ⟨by rw [lw_length]; omega, .inr ⟨g, c, _, rfl, hB, h.blk, by omega, hm, ?_, ?_⟩⟩
  · rw [List.size_toArray, List.length_append, lw_length]; omega
  · rw [Nat.mul_one]
    show List.take n (lw L ++ tl) = lw L
    rw [List.take_left' (by rw [lw_length]; exact hl)]
end Go.Proofs.YtlbbbafehhdpnaaDoor
