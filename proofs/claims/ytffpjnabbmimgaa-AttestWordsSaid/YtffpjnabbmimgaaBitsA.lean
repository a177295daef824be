/- Contracts of package bits (layer 1) and its reference, first part: no memory. -/
import Derived.Test.YtffpjnabbmimgaaRows
import Derived.Test.YtffpjnabbmimgaaMem
import Derived.Test.YtffpjnabbmimgaaBitMath3
import Derived.BigQuiet
import Derived.Deep.QuietTactic
namespace Go.Proofs.Ytffpjnabbmimgaa
open Go.RowKit

theorem zig_any (x : Int) (w : World) (h1 : -9223372036854775808 ≤ x) (h2 : x ≤ 9223372036854775807) :
    Calls Try.prog 15 #[.int .i64 x] w fun e w' => e = .returned (.int .u64 (zig x)) ∧ w = w' := by
  go_enter Try.func15, Try.ntmps15
  go_wp2
  go_ret
  exact ⟨congrArg (fun z => Ending.returned (Value.int .u64 z)) (zig_bits x h1 h2), rfl⟩
theorem zag_any (x : Int) (w : World) (h1 : 0 ≤ x) (h2 : x ≤ 18446744073709551615) :
    Calls Try.prog 17 #[.int .u64 x] w fun e w' => e = .returned (.int .i64 (zag x)) ∧ w = w' := by
  go_enter Try.func17, Try.ntmps17
  go_wp2
  go_ret
  exact ⟨congrArg (fun z => Ending.returned (Value.int .i64 z)) (zag_bits x h1 h2), rfl⟩
theorem rzig_any (x : Int) (w : World) (h1 : -9223372036854775808 ≤ x) (h2 : x ≤ 9223372036854775807) :
    Calls Try.prog 16 #[.int .i64 x] w fun e w' => e = .returned (.int .u64 (zig x)) ∧ w = w' := by
  by_cases h : 0 ≤ x
  all_goals
    go_enter Try.func16, Try.ntmps16
    go_wp2
    go_ret
    refine ⟨congrArg (fun z => Ending.returned (Value.int .u64 z)) ?_, rfl⟩
    show _ = zig x
    unfold zig
    split <;> omega
theorem shift_any (x n : Int) (w : World) (h1 : -9223372036854775808 ≤ x) (h2 : x ≤ 9223372036854775807) :
    Calls Try.prog 20 #[.int .i64 x, .int .i64 n] w fun e w' => e = .returned (.int .i64 (shiftOf x n)) ∧ w = w' := by
  go_enter Try.func20, Try.ntmps20
  go_wp2
  all_goals
    go_ret
    refine ⟨congrArg (fun z => Ending.returned (Value.int .i64 z)) ?_, rfl⟩
    show _ = shiftOf x n
    unfold shiftOf
    repeat' split
    all_goals first | rfl | omega
theorem shift_range (x n : Int) (h1 : -9223372036854775808 ≤ x) (h2 : x ≤ 9223372036854775807) : -9223372036854775808 ≤ shiftOf x n ∧ shiftOf x n ≤ 9223372036854775807 := by
  unfold shiftOf
  repeat' split
  · omega
  · unfold wrap64; omega
  · omega
  · have hp : (0 : Int) < 2 ^ (-n).toNat := Int.pow_pos (by omega)
    have a1 : x / 2 ^ (-n).toNat ≤ max x 0 := by
      by_cases hx : 0 ≤ x
      · have := Int.ediv_le_self (2 ^ (-n).toNat) hx; omega
      · have := Int.ediv_neg_of_neg_of_pos (show x < 0 by omega) hp; omega
    have a2 : min x 0 ≤ x / 2 ^ (-n).toNat := by
      by_cases hx : 0 ≤ x
      · have := Int.ediv_nonneg hx (Int.le_of_lt hp); omega
      · rw [Int.min_eq_left (by omega)]
        refine (Int.le_ediv_iff_mul_le hp).2 ?_
        have : x * 2 ^ (-n).toNat ≤ x * 1 := Int.mul_le_mul_of_nonpos_left (by omega) (by omega)
        omega
    omega
theorem move_any (x n : Int) (w : World) (h1 : 0 ≤ x) (h2 : x ≤ 18446744073709551615) :
    Calls Try.prog 22 #[.int .u64 x, .int .i64 n] w fun e w' => e = .returned (.int .u64 (moveOf x.toNat n : Nat)) ∧ w = w' := by
  obtain ⟨X, rfl⟩ := Int.eq_ofNat_of_zero_le h1
  rw [Int.toNat_natCast]
  by_cases a1 : 64 ≤ n
  · go_enter Try.func22, Try.ntmps22
    go_wp2
    go_ret
    exact ⟨by unfold moveOf; rw [if_pos (Or.inl a1)]; rfl, rfl⟩
  · by_cases a2 : n ≤ -64
    · go_enter Try.func22, Try.ntmps22
      go_wp2
      go_ret
      exact ⟨by unfold moveOf; rw [if_pos (Or.inr a2)]; rfl, rfl⟩
    · by_cases a3 : 0 ≤ n
      · go_enter Try.func22, Try.ntmps22
        go_wp2
        go_ret
        refine ⟨congrArg (fun z => Ending.returned (Value.int .u64 z)) ?_, rfl⟩
        show IntKind.u64.wrap _ = _
        unfold moveOf
        rw [if_neg (by omega), if_pos a3, IntKind.wrap_u64, Int.natCast_emod, Int.natCast_mul]
        simp
      · go_enter Try.func22, Try.ntmps22
        go_wp2
        go_ret
        refine ⟨congrArg (fun z => Ending.returned (Value.int .u64 z)) ?_, rfl⟩
        show (X : Int) / _ = _
        unfold moveOf
        rw [if_neg (by omega), if_neg (by omega), Int.natCast_ediv]
        simp
theorem turn_any (x n : Int) (w : World) (h1 : 0 ≤ x) (h2 : x ≤ 4294967295) :
    Calls Try.prog 18 #[.int .u32 x, .int .i64 n] w fun e w' => e = .returned (.int .u32 (rot x.toNat (n % 32).toNat : Nat)) ∧ ∃ q, w' = w.drewN q := by
  obtain ⟨X, rfl⟩ := Int.eq_ofNat_of_zero_le h1
  rw [Int.toNat_natCast]
  have h31 := i64_and_31 n
  have hk1 : 0 ≤ n % 32 := by omega
  have hk2 : n % 32 < 32 := by omega
  generalize n % 32 = k at *
  obtain ⟨K, rfl⟩ := Int.eq_ofNat_of_zero_le hk1
  go_enter Try.func18, Try.ntmps18
  go_wp2
  have b1 : IntKind.i64.wrap (32 - (K : Int)) = 32 - (K : Int) := IntWalk.i64_in _ (by omega)
  go_quiet (fail)
  go_wp2
  go_ret
  refine ⟨congrArg (fun z => Ending.returned (Value.int .u32 z)) ?_, nq, rfl⟩
  show bits .or .u32 _ _ = _
  have e1 : (X : Int) * 2 ^ K % 4294967296 = ((X * 2 ^ K % 4294967296 : Nat) : Int) := by simp [Int.natCast_emod, Int.natCast_mul]
  have e2 : (X : Int) / 2 ^ (32 - K) = ((X / 2 ^ (32 - K) : Nat) : Int) := by simp [Int.natCast_ediv]
  have e3 : X / 2 ^ (32 - K) ≤ X := Nat.div_le_self _ _
  rw [e1, e2, u32_or_nat _ _ (Nat.mod_lt _ (by decide)) (by omega)]
  rfl

theorem fieldOK_any (a n : Int) (w : World) (h1 : -9223372036854775808 ≤ a) (h2 : a ≤ 9223372036854775807) :
    Calls Try.prog 48 #[.int .i64 a, .int .i64 n] w fun e w' => e = .returned (.bool (rangeOK a n)) ∧ w = w' := by
  by_cases a1 : 0 ≤ a
  · by_cases a2 : 0 ≤ n
    · by_cases a3 : a ≤ 64
      · go_enter Try.func48, Try.ntmps48
        go_wp2
        go_ret
        refine ⟨congrArg (fun z => Ending.returned (Value.bool z)) ?_, rfl⟩
        show decide _ = _
        unfold rangeOK
        simp [a1, a2, a3]
      · go_enter Try.func48, Try.ntmps48
        go_wp2
        go_ret
        refine ⟨congrArg (fun z => Ending.returned (Value.bool z)) ?_, rfl⟩
        show false = _
        unfold rangeOK
        simp; omega
    · go_enter Try.func48, Try.ntmps48
      go_wp2
      go_ret
      refine ⟨congrArg (fun z => Ending.returned (Value.bool z)) ?_, rfl⟩
      show false = _
      unfold rangeOK
      simp; omega
  · go_enter Try.func48, Try.ntmps48
    go_wp2
    go_ret
    refine ⟨congrArg (fun z => Ending.returned (Value.bool z)) ?_, rfl⟩
    show false = _
    unfold rangeOK
    simp; omega
theorem rrange_any (a n : Int) (w : World) (h1 : -9223372036854775808 ≤ a) (h2 : a ≤ 9223372036854775807) :
    Calls Try.prog 50 #[.int .i64 a, .int .i64 n] w fun e w' => e = .returned (.bool (rangeOK a n)) ∧ w = w' := by
  by_cases a1 : 0 ≤ a
  · by_cases a2 : 0 ≤ n
    · by_cases a3 : a ≤ 64
      · go_enter Try.func50, Try.ntmps50
        go_wp2
        go_ret
        refine ⟨congrArg (fun z => Ending.returned (Value.bool z)) ?_, rfl⟩
        show decide _ = _
        unfold rangeOK
        simp [a1, a2, a3]
      · go_enter Try.func50, Try.ntmps50
        go_wp2
        go_ret
        refine ⟨congrArg (fun z => Ending.returned (Value.bool z)) ?_, rfl⟩
        show false = _
        unfold rangeOK
        simp; omega
    · go_enter Try.func50, Try.ntmps50
      go_wp2
      go_ret
      refine ⟨congrArg (fun z => Ending.returned (Value.bool z)) ?_, rfl⟩
      show false = _
      unfold rangeOK
      simp; omega
  · go_enter Try.func50, Try.ntmps50
    go_wp2
    go_ret
    refine ⟨congrArg (fun z => Ending.returned (Value.bool z)) ?_, rfl⟩
    show false = _
    unfold rangeOK
    simp; omega
theorem low_any (n : Int) (w : World) (h1 : 0 ≤ n) (h2 : n ≤ 64) :
    Calls Try.prog 49 #[.int .i64 n] w fun e w' => e = .returned (.int .u64 (2 ^ n.toNat - 1 : Nat)) ∧ w = w' := by
  by_cases h : n = 64
  · subst h
    go_enter Try.func49, Try.ntmps49
    go_wp2
    go_ret
    exact ⟨rfl, rfl⟩
  · obtain ⟨N, rfl⟩ := Int.eq_ofNat_of_zero_le h1
    have hb : ((N : Int) == 64) = false := by simpa using h
    have hp : 2 ^ N ≤ 2 ^ 63 := Nat.pow_le_pow_right (by omega) (by omega)
    have hp0 : 0 < 2 ^ N := Nat.pow_pos (by omega)
    go_enter Try.func49, Try.ntmps49
    go_wp2
    go_ret
    refine ⟨congrArg (fun z => Ending.returned (Value.int .u64 z)) ?_, rfl⟩
    show IntKind.u64.wrap _ = _
    have hp1 : (2 : Nat) ^ 63 = 9223372036854775808 := by decide
    simp only [IntKind.wrap_u64, Int.toNat_natCast]
    have e : ((2 : Int) ^ N) = ((2 ^ N : Nat) : Int) := by simp
    rw [e]
    omega
theorem field_no (x a n : Int) (w : World) (h1 : -9223372036854775808 ≤ a) (h2 : a ≤ 9223372036854775807) (h : rangeOK a n = false) :
    Calls Try.prog 23 #[.int .u64 x, .int .i64 a, .int .i64 n] w fun e w' => e = .returned (.tuple #[.int .u64 0, .bool false]) ∧ w = w' := by
  go_enter Try.func23, Try.ntmps23
  go_wp2_with fail
  refine (fieldOK_any _ _ _ h1 h2).mono ?_
  rintro e w' ⟨rfl, rfl⟩
  go_wp2
  go_ret2
  exact ⟨rfl, rfl⟩
theorem field_yes (X A N : Nat) (w : World) (hX : X ≤ 18446744073709551615) (h : A + N ≤ 64) :
    Calls Try.prog 23 #[.int .u64 X, .int .i64 A, .int .i64 N] w fun e w' => e = .returned (.tuple #[.int .u64 (fieldOf X A N : Nat), .bool true]) ∧ ∃ q, w' = w.drewN q := by
  have hr : rangeOK A N = true := by unfold rangeOK; simp; omega
  have hf := fieldOK_any A N w (by omega) (by omega)
  rw [hr] at hf
  go_enter Try.func23, Try.ntmps23
  go_wp2_with fail
  refine hf.mono ?_
  rintro e w' ⟨rfl, rfl⟩
  go_wp2_with fail
  go_quiet ((go_at_call 49; exact Calls.quiet_of_same ((low_any _ _ (by omega) (by omega)).mono fun _ _ ⟨a, b⟩ => ⟨a, b.symm⟩)))
  go_wp2
  go_ret2
  refine ⟨ret_int_bool ?_ rfl, nq, rfl⟩
  have e1 : (X : Int) / 2 ^ A = ((X / 2 ^ A : Nat) : Int) := by simp [Int.natCast_ediv]
  have e2 : X / 2 ^ A ≤ X := Nat.div_le_self _ _
  have e3 : 2 ^ N ≤ 18446744073709551616 := by rw [two64]; exact Nat.pow_le_pow_right (by omega) (by omega)
  rw [e1, u64_and_nat _ _ (by omega) (by omega), field_mask]
theorem put_no (x a n v : Int) (w : World) (h1 : -9223372036854775808 ≤ a) (h2 : a ≤ 9223372036854775807) (h : rangeOK a n = false) :
    Calls Try.prog 25 #[.int .u64 x, .int .i64 a, .int .i64 n, .int .u64 v] w fun e w' => e = .returned (.tuple #[.int .u64 0, .bool false]) ∧ w = w' := by
  go_enter Try.func25, Try.ntmps25
  go_wp2_with fail
  refine (fieldOK_any _ _ _ h1 h2).mono ?_
  rintro e w' ⟨rfl, rfl⟩
  go_wp2
  go_ret2
  exact ⟨rfl, rfl⟩
theorem put_yes (X A N V : Nat) (w : World) (hX : X ≤ 18446744073709551615) (hV : V ≤ 18446744073709551615) (h : A + N ≤ 64) :
    Calls Try.prog 25 #[.int .u64 X, .int .i64 A, .int .i64 N, .int .u64 V] w fun e w' => e = .returned (.tuple #[.int .u64 (putOf X A N V : Nat), .bool true]) ∧ ∃ q, w' = w.drewN q := by
  have hr : rangeOK A N = true := by unfold rangeOK; simp; omega
  have hf := fieldOK_any A N w (by omega) (by omega)
  rw [hr] at hf
  go_enter Try.func25, Try.ntmps25
  go_wp2_with fail
  refine hf.mono ?_
  rintro e w' ⟨rfl, rfl⟩
  go_wp2_with fail
  refine (low_any N _ (by omega) (by omega)).mono ?_
  rintro e w' ⟨rfl, rfl⟩
  go_wp2_with fail
  go_ret2
  refine ⟨ret_int_bool ?_ rfl, 0, rfl⟩
  have hm := mask_lt A N h
  have e1 : IntKind.u64.wrap (((2 ^ N - 1 : Nat) : Int) * 2 ^ A) = (((2 ^ N - 1) * 2 ^ A : Nat) : Int) := by
    have e : (((2 ^ N - 1 : Nat) : Int) * 2 ^ A) = (((2 ^ N - 1) * 2 ^ A : Nat) : Int) := by rw [Int.natCast_mul]; simp
    rw [e, IntKind.wrap_u64]
    generalize (2 ^ N - 1) * 2 ^ A = m at *
    omega
  have e2 : IntKind.u64.wrap ((V : Int) * 2 ^ A) = ((V * 2 ^ A % 18446744073709551616 : Nat) : Int) := by
    rw [IntKind.wrap_u64, Int.natCast_emod, Int.natCast_mul]; simp
  have e3 : X &&& (18446744073709551615 - (2 ^ N - 1) * 2 ^ A) < 18446744073709551616 := Nat.lt_of_le_of_lt Nat.and_le_left (by omega)
  have e4 : (V * 2 ^ A % 18446744073709551616) &&& ((2 ^ N - 1) * 2 ^ A) < 18446744073709551616 := Nat.lt_of_le_of_lt Nat.and_le_left (Nat.mod_lt _ (by decide))
  rw [e1, e2, u64_and_nat _ _ (Nat.mod_lt _ (by decide)) hm, u64_andNot_nat _ _ (by omega) hm, u64_or_nat _ _ e3 e4, put_mask X A N V (by omega) h]
end Go.Proofs.Ytffpjnabbmimgaa
