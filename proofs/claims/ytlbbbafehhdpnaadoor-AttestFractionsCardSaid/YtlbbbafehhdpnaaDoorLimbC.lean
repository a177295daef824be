/- Contracts of package limb: Bits. -/
import Derived.Test.YtlbbbafehhdpnaaDoorNatDiv
import Derived.Test.YtlbbbafehhdpnaaDoorShelf
import Derived.Lib.BitFns
namespace Go.Proofs.YtlbbbafehhdpnaaDoor
open Go.RowKit
set_option linter.unusedVariables false
set_option linter.unusedSimpArgs false

/-- how many bits a number has. -/
def bl (N : Nat) : Nat := if N = 0 then 0 else N.log2 + 1
theorem bl_le {N n : Nat} (h : N < 2 ^ n) : bl N ≤ n := by
  unfold bl
  split
  · omega
  · rename_i h0
    have := (Nat.log2_lt h0).2 h
    omega
theorem bl_lt (N : Nat) : N < 2 ^ bl N := by
  unfold bl
  split
  · rename_i h0; subst h0; decide
  · rename_i h0
    exact (Nat.log2_lt h0).1 (by omega)
theorem bl_of {N b : Nat} (h1 : N < 2 ^ (b + 1)) (h2 : 2 ^ b ≤ N) : bl N = b + 1 := by
  have h0 : N ≠ 0 := by have := Nat.two_pow_pos b; omega
  have ha := bl_le h1
  unfold bl at ha ⊢
  rw [if_neg h0] at ha ⊢
  have hb : ¬ N.log2 < b := fun h => by have := (Nat.log2_lt h0).1 h; omega
  omega
theorem bitLen_spec (x : Nat) (hx : x < 18446744073709551616) (h0 : x ≠ 0) : ∃ b, Lib.bitLen x = b + 1 ∧ x < 2 ^ (b + 1) ∧ 2 ^ b ≤ x := by
  induction x using Nat.strongRecOn with
  | ind x ih =>
    have hh := Lib.bitLen_half x h0 hx
    by_cases h1 : x / 2 = 0
    · have : x = 1 := by omega
      subst this
      exact ⟨0, by decide, by decide, by decide⟩
    · obtain ⟨b, e, q1, q2⟩ := ih (x / 2) (by omega) (by omega) h1
      refine ⟨b + 1, by rw [hh, e]; omega, ?_, ?_⟩
      · rw [Nat.pow_succ]; omega
      · rw [Nat.pow_succ]; omega
theorem limbs_top (N : Nat) (h : N ≠ 0) : 0 < (limbs N).length ∧ (limbs N).getD ((limbs N).length - 1) 0 ≠ 0 := by
  induction N using Nat.strongRecOn with
  | ind N ih =>
    rw [limbs_pos N h]
    by_cases h1 : N / 4294967296 = 0
    · rw [h1, limbs_zero]
      simp
      omega
    · obtain ⟨q1, q2⟩ := ih (N / 4294967296) (by omega) h1
      refine ⟨by simp, ?_⟩
      obtain ⟨m, hm⟩ : ∃ m, (limbs (N / 4294967296)).length = m + 1 := ⟨_, (Nat.succ_pred_eq_of_pos q1).symm⟩
      rw [List.length_cons, hm, Nat.add_sub_cancel, List.getD_cons_succ]
      rw [hm, Nat.add_sub_cancel] at q2
      exact q2
theorem lv_split (L : List Nat) (m : Nat) (hs : small L) (hl : L.length = m + 1) : ∃ R, lv L = R + 2 ^ (32 * m) * L.getD m 0 ∧ R < 2 ^ (32 * m) := by
  have h := lv_takeD L m (by omega)
  rw [List.take_of_length_le (by omega)] at h
  have h2 := lv_lt (L.take m) (small_take hs m)
  rw [List.length_take, Nat.min_eq_left (by omega)] at h2
  exact ⟨_, h, h2⟩
theorem bits_val (N m : Nat) (h : (limbs N).length = m + 1) : bl N = 32 * m + Lib.bitLen ((limbs N).getD m 0) := by
  have h0 : N ≠ 0 := fun e => by rw [e, limbs_zero] at h; simp at h
  obtain ⟨_, ht⟩ := limbs_top N h0
  rw [h, Nat.add_sub_cancel] at ht
  have hs := getD_lt (limbs_small N) m
  obtain ⟨R, e, hR⟩ := lv_split _ m (limbs_small N) h
  rw [lv_limbs] at e
  obtain ⟨b, eb, q1, q2⟩ := bitLen_spec ((limbs N).getD m 0) (by omega) ht
  generalize (limbs N).getD m 0 = T at *
  rw [eb, ← Nat.add_assoc]
  refine bl_of ?_ ?_
  · rw [e, Nat.add_assoc, Nat.pow_add]
    have : 2 ^ (32 * m) * (T + 1) ≤ 2 ^ (32 * m) * 2 ^ (b + 1) := Nat.mul_le_mul (Nat.le_refl _) q1
    rw [Nat.mul_add] at this
    omega
  · rw [e, Nat.pow_add]
    have : 2 ^ (32 * m) * 2 ^ b ≤ 2 ^ (32 * m) * T := Nat.mul_le_mul (Nat.le_refl _) q2
    omega
theorem take_len {xs L : List Nat} {k n : Nat} (h : xs.take k = L) (hk : k ≤ n) (hl : xs.length = n) : k = L.length := by
  rw [← h, List.length_take]
  omega
set_option maxRecDepth 100000 in
theorem lbits_any (xs : List Nat) (A : Option Addr) (n c : Nat) (w : World) (hl : xs.length = n) (hnc : n ≤ c) (hn : n ≤ 1099511627776) (hr : Rd w 1 A n (lw xs)) (hs : small xs) :
    Calls Tryd.prog 13 #[.slice A n c] w fun e w' => e = .returned (.int .i64 ((bl (lv xs) : Nat) : Int)) ∧ w' = w := by
  have hcut := cut_any xs A n c w hl hnc (by omega) hr hs
  have hL := limbs_small (lv xs)
  by_cases h0 : lv xs = 0
  · rw [h0, limbs_zero] at hcut
    rw [h0, show bl 0 = 0 from rfl]
    clear h0 hL
    go_enter Tryd.func13, Tryd.ntmps13
    go_wp2_with (go_at_call 42; refine hcut.mono ?_; clear hcut; rintro e w' ⟨k, rfl, hk, htk, hw⟩; obtain rfl := hw; obtain rfl : k = 0 := take_len htk hk hl)
    go_ret
    exact ⟨rfl, rfl⟩
  · obtain ⟨q1, q2⟩ := limbs_top (lv xs) h0
    obtain ⟨m, hm⟩ : ∃ m, (limbs (lv xs)).length = m + 1 := ⟨_, (Nat.succ_pred_eq_of_pos q1).symm⟩
    have hbv := bits_val (lv xs) m hm
    have hlz := fun W (x : Nat) (hx : x < 4294967296) => Tryd.bits_LeadingZeros32 (x : Int) W (by omega) (by omega)
    have hgl := getD_lt hL m
    have hblb : Lib.bitLen ((limbs (lv xs)).getD m 0) ≤ 32 := Lib.bitLen_le _ 32 (by omega) (by omega)
    have HR := Lib.hid hr
    have HLZ := Lib.hid hlz
    have HBV := Lib.hid hbv
    have HLM := Lib.hid hm
    clear h0 q1 q2 hr hlz hbv hm
    go_enter Tryd.func13, Tryd.ntmps13
    go_upto_region 4 with (go_at_call 42; refine hcut.mono ?_; clear hcut; rintro e w' ⟨k, rfl, hk, htk, hw⟩; obtain rfl := hw; obtain rfl : k = m + 1 := (take_len htk hk hl).trans HLM.out)
    have hrk := HR.out.take hk
    rw [lw_take, htk] at hrk
    obtain ⟨b, off, rfl, x0⟩ := hrk.limb m (by omega) HLM.out
    generalize (limbs (lv xs)).getD m 0 = T at *
    have hz := HLZ.out w T hgl
    rw [Int.toNat_natCast] at hz
    clear htk hrk
    generalize Lib.bitLen T = bt at *
    go_wp2_with (go_at_call 43; refine hz.mono ?_; clear hz; rintro e w' ⟨rfl, hw⟩; obtain rfl := hw.symm; clear hw)
    go_ret
    exact ⟨by rw [HBV.out]; first | rfl | go_num | (congr 2; omega), rfl⟩
end Go.Proofs.YtlbbbafehhdpnaaDoor
