/- Long division of limbs: one guess over a window, the loop's invariant. No program in sight. -/
import Derived.Test.YtlbbbafehhdpnaaDoorLongMath2
namespace Go.Proofs.YtlbbbafehhdpnaaDoor
set_option linter.unusedVariables false
set_option linter.unusedSimpArgs false

theorem lv_top1 (l : List Nat) (hs : small l) (k : Nat) (h : l.length = k + 1) : lv l = l.getD k 0 * 2 ^ (32 * k) + lv (l.take k) ∧ lv (l.take k) < 2 ^ (32 * k) := by
  have h1 := lv_takeD l k (by omega)
  rw [List.take_of_length_le (by omega)] at h1
  have h2 := lv_lt (l.take k) (small_take hs k)
  rw [List.length_take, Nat.min_eq_left (by omega)] at h2
  refine ⟨?_, h2⟩
  rw [h1, Nat.mul_comm (l.getD k 0)]
  omega
theorem lv_top2 (l : List Nat) (hs : small l) (k : Nat) (h : l.length = k + 2) : lv l = (l.getD (k + 1) 0 * 4294967296 + l.getD k 0) * 2 ^ (32 * k) + lv (l.take k) ∧ lv (l.take k) < 2 ^ (32 * k) := by
  have h1 := (lv_top1 l hs (k + 1) h).1
  have h2 := lv_takeD l k (by omega)
  have h3 := lv_lt (l.take k) (small_take hs k)
  rw [List.length_take, Nat.min_eq_left (by omega)] at h3
  refine ⟨?_, h3⟩
  rw [h1, h2, pow_succ32, Nat.add_mul, Nat.mul_assoc, Nat.mul_comm 4294967296, Nat.mul_comm (l.getD k 0)]
  omega
theorem top3_aux (T P c t : Nat) : T * (P * 4294967296) + (t + P * c) = (T * 4294967296 + c) * P + t := by
  have e : T * (P * 4294967296) = T * 4294967296 * P := by rw [Nat.mul_assoc, Nat.mul_comm P]
  have e2 : (T * 4294967296 + c) * P = T * 4294967296 * P + c * P := Nat.add_mul _ _ _
  have e3 : P * c = c * P := Nat.mul_comm _ _
  omega
theorem lv_top3 (l : List Nat) (hs : small l) (k : Nat) (h : l.length = k + 3) : lv l = ((l.getD (k + 2) 0 * 4294967296 + l.getD (k + 1) 0) * 4294967296 + l.getD k 0) * 2 ^ (32 * k) + lv (l.take k) ∧ lv (l.take k) < 2 ^ (32 * k) := by
  have h1 := (lv_top2 l hs (k + 1) h).1
  have h2 := lv_takeD l k (by omega)
  have h3 := lv_lt (l.take k) (small_take hs k)
  rw [List.length_take, Nat.min_eq_left (by omega)] at h3
  refine ⟨?_, h3⟩
  rw [show k + 1 + 1 = k + 2 from rfl] at h1
  have e := top3_aux (l.getD (k + 2) 0 * 4294967296 + l.getD (k + 1) 0) (2 ^ (32 * k)) (l.getD k 0) (lv (l.take k))
  rw [← pow_succ32, ← h2, ← h1] at e
  exact e
/-- the guess's invariant: window U of k + 3 limbs, divisor V of k + 2. -/
structure GInv (U V : List Nat) (k g rest : Nat) : Prop where
  top : g * V.getD (k + 1) 0 + rest = U.getD (k + 2) 0 * 4294967296 + U.getD (k + 1) 0
  above : lv U / lv V ≤ g
  small : g ≤ 4294967297
theorem GInv.first {U V : List Nat} {k : Nat} (hU : Go.Proofs.YtlbbbafehhdpnaaDoor.small U) (hV : Go.Proofs.YtlbbbafehhdpnaaDoor.small V) (hl : U.length = k + 3) (hl2 : V.length = k + 2) (hv : 2147483648 ≤ V.getD (k + 1) 0) (hle : U.getD (k + 2) 0 ≤ V.getD (k + 1) 0) :
    GInv U V k ((U.getD (k + 2) 0 * 4294967296 + U.getD (k + 1) 0) / V.getD (k + 1) 0) ((U.getD (k + 2) 0 * 4294967296 + U.getD (k + 1) 0) % V.getD (k + 1) 0) := by
  obtain ⟨h1, h2⟩ := lv_top2 U hU (k + 1) hl
  obtain ⟨h3, h4⟩ := lv_top1 V hV (k + 1) hl2
  refine ⟨by rw [Nat.mul_comm]; exact Nat.div_add_mod _ _, ?_, guess_first _ _ _ hle (getD_lt hU _) hv⟩
  exact first_above (lv U) (lv V) _ _ _ _ _ _ (Nat.div_mul_le_self _ _) h1 h2 h3 (by omega)
theorem GInv.down {U V : List Nat} {k g rest : Nat} (h : GInv U V k g rest) (hU : Go.Proofs.YtlbbbafehhdpnaaDoor.small U) (hV : Go.Proofs.YtlbbbafehhdpnaaDoor.small V) (hl : U.length = k + 3) (hl2 : V.length = k + 2) (hq : lv U / lv V < 4294967296)
    (hg : 4294967296 ≤ g ∨ rest * 4294967296 + U.getD k 0 < g * V.getD k 0) : 0 < g ∧ GInv U V k (g - 1) (rest + V.getD (k + 1) 0) := by
  obtain ⟨h1, h2⟩ := lv_top3 U hU k hl
  obtain ⟨h3, h4⟩ := lv_top2 V hV k hl2
  have hd := guess_down (lv U) (lv V) (lv U / lv V) _ _ _ _ _ g _ _ _ rest _ (Nat.div_mul_le_self _ _) h1 h2 h3 rfl rfl h.top hq hg
  have hg0 : 0 < g := Nat.lt_of_le_of_lt (Nat.zero_le _) hd
  obtain ⟨p, rfl⟩ : ∃ p, g = p + 1 := ⟨g - 1, by omega⟩
  have ht := h.top
  have hs := h.small
  rw [Nat.add_mul, Nat.one_mul] at ht
  have hd' := Nat.le_of_lt_succ hd
  refine ⟨Nat.succ_pos p, ?_, hd', by rw [Nat.add_sub_cancel]; omega⟩
  rw [Nat.add_sub_cancel]
  omega
theorem GInv.near {U V : List Nat} {k g rest : Nat} (h : GInv U V k g rest) (hU : Go.Proofs.YtlbbbafehhdpnaaDoor.small U) (hV : Go.Proofs.YtlbbbafehhdpnaaDoor.small V) (hl : U.length = k + 3) (hl2 : V.length = k + 2) (hv : 1 ≤ V.getD (k + 1) 0) (hgB : g < 4294967296)
    (hg : g * V.getD k 0 ≤ rest * 4294967296 + U.getD k 0) : g ≤ lv U / lv V + 1 := by
  obtain ⟨h1, h2⟩ := lv_top3 U hU k hl
  obtain ⟨h3, h4⟩ := lv_top2 V hV k hl2
  have hVp : 0 < lv V := by
    rw [h3]
    have : 0 < (V.getD (k + 1) 0 * 4294967296 + V.getD k 0) * 2 ^ (32 * k) := Nat.mul_pos (by omega) (Nat.pow_pos (by decide))
    omega
  exact guess_near (lv U) (lv V) (lv U / lv V) _ _ _ _ _ g _ _ _ rest _ (by rw [Nat.mul_comm]; exact Nat.lt_mul_div_succ _ hVp) h1 h4 h3 rfl rfl h.top hv hgB hg
end Go.Proofs.YtlbbbafehhdpnaaDoor
