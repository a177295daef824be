/- The walks of the laws of attestlaw01 over the contracts. -/
import Derived.Test.YtffpjnabbmimgaaBitsC
import Derived.Test.YtffpjnabbmimgaaOpen
namespace Go.Proofs.Ytffpjnabbmimgaa
open Go.RowKit

theorem w_wraps (a0 : Int) (w0 : (Lit.int .i64 a0).wf = true) (a1 : Int) (w1 : (Lit.int .u64 a1).wf = true) (w : World) :
    Calls Try.prog 3 #[.int .i64 a0, .int .u64 a1] w fun e w' => e = .returned (.bool true) ∧ Below w.heap.size w w' := by
  obtain ⟨h1, h2⟩ := b_u64 w1
  clear w0 w1
  obtain ⟨X, rfl⟩ := Int.eq_ofNat_of_zero_le h1
  have hX : X ≤ 18446744073709551615 := by omega
  clear h1 h2
  have hlt := wrapOf_lt a0 X
  have hag := wrap_again a0 X
  have c1 := wrap_any a0 X w hX
  have c2 := rwrap_any a0 X w hX
  have c3 := fun W => wrap_any a0 (wrapOf a0 X) W (by omega)
  rw [hag] at c3
  clear hag
  generalize wrapOf a0 X = Y at *
  generalize decide (widthOf a0 ≠ 0) = ok at *
  go_enter Try.func3, Try.ntmps3
  go_wp2_with fail
  refine c1.mono ?_
  rintro e w' ⟨rfl, rfl⟩
  go_wp2_with fail
  refine c2.mono ?_
  rintro e w2 ⟨rfl, hb⟩
  go_wp2_with fail
  refine (c3 _).mono ?_
  rintro e w' ⟨rfl, rfl⟩
  go_wp2_with fail
  refine (awake_any _).mono ?_
  rintro e w' ⟨rfl, rfl⟩
  cases ok
  all_goals
    go_wp2
    go_ret
    exact ⟨rfl, hb⟩

theorem w_zigs (a0 : Int) (w0 : (Lit.int .i64 a0).wf = true) (a1 : Int) (w1 : (Lit.int .u64 a1).wf = true) (w : World) :
    Calls Try.prog 4 #[.int .i64 a0, .int .u64 a1] w fun e w' => e = .returned (.bool true) ∧ Below w.heap.size w w' := by
  obtain ⟨h1, h2⟩ := b_i64 w0
  obtain ⟨h3, h4⟩ := b_u64 w1
  clear w0 w1
  obtain ⟨z1, z2⟩ := zig_range a0 h1 h2
  obtain ⟨z3, z4⟩ := zag_range a1 h3 h4
  have c1 := fun W => zig_any a0 W h1 h2
  have c2 := fun W => rzig_any a0 W h1 h2
  have c3 := fun W => zag_any (zig a0) W z1 z2
  rw [zag_zig] at c3
  have c4 := fun W => zag_any a1 W h3 h4
  have c5 := fun W => zig_any (zag a1) W z3 z4
  rw [zig_zag _ h3] at c5
  clear h1 h2 h3 h4 z1 z2 z3 z4
  generalize zig a0 = Z at *
  generalize zag a1 = Y at *
  have d1 := Lib.hid c1; have d2 := Lib.hid c2; have d3 := Lib.hid c3; have d4 := Lib.hid c4; have d5 := Lib.hid c5
  clear c1 c2 c3 c4 c5
  go_enter Try.func4, Try.ntmps4
  go_wp2_with fail
  refine (awake_any _).mono ?_
  rintro e w' ⟨rfl, rfl⟩
  go_wp2_with fail
  refine (d1.out _).mono ?_
  rintro e w' ⟨rfl, rfl⟩
  go_wp2_with fail
  refine (d2.out _).mono ?_
  rintro e w' ⟨rfl, rfl⟩
  go_wp2_with fail
  refine (d1.out _).mono ?_
  rintro e w' ⟨rfl, rfl⟩
  go_wp2_with fail
  refine (d3.out _).mono ?_
  rintro e w' ⟨rfl, rfl⟩
  go_wp2_with fail
  refine (d4.out _).mono ?_
  rintro e w' ⟨rfl, rfl⟩
  go_wp2_with fail
  refine (d5.out _).mono ?_
  rintro e w' ⟨rfl, rfl⟩
  go_wp2
  go_ret
  exact ⟨rfl, Below.refl _ _⟩

theorem w_shifts (a0 : Int) (w0 : (Lit.int .i64 a0).wf = true) (a1 : Int) (w1 : (Lit.int .i64 a1).wf = true) (w : World) :
    Calls Try.prog 6 #[.int .i64 a0, .int .i64 a1] w fun e w' => e = .returned (.bool true) ∧ Below w.heap.size w w' := by
  obtain ⟨h1, h2⟩ := b_i64 w0
  obtain ⟨h3, h4⟩ := b_i64 w1
  clear w0 w1
  have hu1 : 0 ≤ IntKind.u64.wrap a0 := by rw [IntKind.wrap_u64]; omega
  have hu2 : IntKind.u64.wrap a0 ≤ 18446744073709551615 := by rw [IntKind.wrap_u64]; omega
  have c1 := fun W => shift_any a0 a1 W h1 h2
  have e1 := shift_mv a0 a1 h1 h2
  have c3 := fun W => move_any (IntKind.u64.wrap a0) a1 W hu1 hu2
  rw [move_mv _ a1 (by omega)] at c3
  generalize hU : IntKind.u64.wrap a0 = U at *
  obtain ⟨X, rfl⟩ := Int.eq_ofNat_of_zero_le hu1
  rw [Int.toNat_natCast] at c3 e1
  have c2 := fun W => rmove_any X a1 (decide (a0 < 0)) W (by omega) h3 h4
  have c4 := fun W => rmove_any X a1 false W (by omega) h3 h4
  have hlt1 := mvOf_lt X a1 (decide (a0 < 0))
  have hlt2 := mvOf_lt X a1 false
  generalize mvOf X a1 false = M0 at *
  generalize mvOf X a1 (decide (a0 < 0)) = M1 at *
  generalize shiftOf a0 a1 = Sh at *
  have d1 := Lib.hid c1; have d2 := Lib.hid c2; have d3 := Lib.hid c3; have d4 := Lib.hid c4
  clear c1 c2 c3 c4 h1 h2 h3 h4 hu1 hu2 hlt1 hlt2
  go_enter Try.func6, Try.ntmps6
  go_wp2_with fail
  refine (awake_any _).mono ?_
  rintro e w' ⟨rfl, rfl⟩
  go_wp2_with fail
  refine (d1.out _).mono ?_
  rintro e w' ⟨rfl, rfl⟩
  go_wp2_with fail
  refine (d2.out _).mono ?_
  rintro e w2 ⟨rfl, hb⟩
  go_wp2_with fail
  refine (d3.out _).mono ?_
  rintro e w' ⟨rfl, rfl⟩
  go_wp2_with fail
  refine (d4.out _).mono ?_
  rintro e w3 ⟨rfl, hb3⟩
  go_wp2
  go_ret
  exact ⟨rfl, hb.trans (hb3.mono hb.size)⟩

theorem w_turns (a0 : Int) (w0 : (Lit.int .u32 a0).wf = true) (a1 : Int) (w1 : (Lit.int .i64 a1).wf = true) (w : World) :
    Calls Try.prog 5 #[.int .u32 a0, .int .i64 a1] w fun e w' => e = .returned (.bool true) ∧ Below w.heap.size w w' := by
  obtain ⟨h1, h2⟩ := b_u32 w0
  obtain ⟨h3, h4⟩ := b_i64 w1
  clear w0 w1
  obtain ⟨X, rfl⟩ := Int.eq_ofNat_of_zero_le h1
  have hk1 : 0 ≤ a1 % 32 := by omega
  have hk2 : a1 % 32 < 32 := by omega
  have hlt := rot_lt X (a1 % 32).toNat (by omega) (by omega)
  have c1 := fun W => turn_any X a1 W h1 h2
  have c2 := fun W => rturn_any X a1 W (by omega) h3 h4
  have c3 := fun W => turn_any (rot X (a1 % 32).toNat) (32 - a1.tmod 32) W (by omega) (by omega)
  have hT : -32 < a1.tmod 32 ∧ a1.tmod 32 < 32 ∧ (a1.tmod 32 = a1 % 32 ∨ a1.tmod 32 + 32 = a1 % 32) := by
    by_cases h : 0 ≤ a1
    · rw [Int.tmod_eq_emod_of_nonneg h]; omega
    · rw [Int.tmod_eq_emod]
      have e : ((Int.natAbs 32 : Nat) : Int) = 32 := rfl
      split
      · rw [show ((0 : Nat) : Int) = 0 from rfl]; omega
      · rw [e]; omega
  rw [Int.toNat_natCast] at c1 c3
  have hrr : rot (rot X (a1 % 32).toNat) ((32 - a1.tmod 32) % 32).toNat = X := rot_rot X _ _ (by omega) (by omega) (by omega) (by omega)
  rw [hrr] at c3
  clear hrr
  generalize hR : rot X (a1 % 32).toNat = R at *
  generalize ht : a1.tmod 32 = T at *
  obtain ⟨t1, t2, _⟩ := hT
  have HT := Lib.hid ht
  clear ht hR
  have hw : wrap64 T = T := by unfold wrap64; omega
  have ht := HT.out
  have d1 := Lib.hid c1; have d2 := Lib.hid c2; have d3 := Lib.hid c3
  clear c1 c2 c3 hk1 hk2 hlt h3 h4
  go_enter Try.func5, Try.ntmps5
  go_wp2_with fail
  refine (d1.out _).mono ?_
  rintro e w' ⟨rfl, q, rfl⟩
  go_wp2_with fail
  refine (awake_any _).mono ?_
  rintro e w' ⟨rfl, rfl⟩
  go_wp2_with fail
  refine (d2.out _).mono ?_
  rintro e w2 ⟨rfl, hb⟩
  go_wp2_with fail
  refine (d3.out _).mono ?_
  rintro e w' ⟨rfl, q2, rfl⟩
  go_wp2
  go_ret
  refine ⟨rfl, ?_⟩
  have hb2 : Below w.heap.size w w2 := ⟨hb.os, hb.tape, hb.output, hb.size, hb.block⟩
  exact ⟨hb2.os, hb2.tape, hb2.output, hb2.size, hb2.block⟩

theorem rangeOK_nat (a n : Int) (h : rangeOK a n = true) : ∃ A N : Nat, a = A ∧ n = N ∧ A + N ≤ 64 := by
  unfold rangeOK at h
  simp at h
  exact ⟨a.toNat, n.toNat, by omega, by omega, by omega⟩

theorem w_fields (a0 : Int) (w0 : (Lit.int .u64 a0).wf = true) (a1 : Int) (w1 : (Lit.int .i64 a1).wf = true) (a2 : Int) (w2 : (Lit.int .i64 a2).wf = true) (a3 : Int) (w3 : (Lit.int .u64 a3).wf = true) (w : World) :
    Calls Try.prog 7 #[.int .u64 a0, .int .i64 a1, .int .i64 a2, .int .u64 a3] w fun e w' => e = .returned (.bool true) ∧ Below w.heap.size w w' := by
  obtain ⟨h1, h2⟩ := b_u64 w0
  obtain ⟨h3, h4⟩ := b_i64 w1
  obtain ⟨h7, h8⟩ := b_u64 w3
  clear w0 w1 w2 w3
  cases hr : rangeOK a1 a2 with
  | false =>
    have d1 := Lib.hid (fun W => field_no a0 a1 a2 W h3 h4 hr)
    have d2 := Lib.hid (fun W => rfield_no a0 a1 a2 W h3 h4 hr)
    have d3 := Lib.hid (fun W => put_no a0 a1 a2 a3 W h3 h4 hr)
    have d4 := Lib.hid (fun W => rput_no a0 a1 a2 a3 W h3 h4 hr)
    clear hr
    go_enter Try.func7, Try.ntmps7
    go_wp2_with fail
    refine (d1.out _).mono ?_
    rintro e w' ⟨rfl, rfl⟩
    go_wp2_with fail
    refine (d2.out _).mono ?_
    rintro e w' ⟨rfl, rfl⟩
    go_wp2_with fail
    refine (d3.out _).mono ?_
    rintro e w' ⟨rfl, rfl⟩
    go_wp2_with fail
    refine (d4.out _).mono ?_
    rintro e w' ⟨rfl, rfl⟩
    go_wp2_with fail
    refine (awake_any _).mono ?_
    rintro e w' ⟨rfl, rfl⟩
    go_wp2
    go_ret
    exact ⟨rfl, Below.refl _ _⟩
  | true =>
    obtain ⟨A, N, rfl, rfl, hAN⟩ := rangeOK_nat _ _ hr
    obtain ⟨X, rfl⟩ := Int.eq_ofNat_of_zero_le h1
    obtain ⟨V, rfl⟩ := Int.eq_ofNat_of_zero_le h7
    have d1 := Lib.hid (fun W => field_yes X A N W (by omega) hAN)
    have d2 := Lib.hid (fun W => rfield_yes X A N W (by omega) hAN)
    have d3 := Lib.hid (fun W => put_yes X A N V W (by omega) (by omega) hAN)
    have d4 := Lib.hid (fun W => rput_yes X A N V W (by omega) (by omega) hAN)
    generalize fieldOf X A N = F1 at *
    generalize putOf X A N V = P1 at *
    clear hr
    go_enter Try.func7, Try.ntmps7
    go_wp2_with fail
    refine (d1.out _).mono ?_
    rintro e w' ⟨rfl, q1, rfl⟩
    go_wp2_with fail
    refine (d2.out _).mono ?_
    rintro e w2 ⟨rfl, hb⟩
    go_wp2_with fail
    refine (d3.out _).mono ?_
    rintro e w' ⟨rfl, q2, rfl⟩
    go_wp2_with fail
    refine (d4.out _).mono ?_
    rintro e w3 ⟨rfl, hb3⟩
    go_wp2_with fail
    refine (awake_any _).mono ?_
    rintro e w' ⟨rfl, rfl⟩
    go_wp2
    go_ret
    refine ⟨rfl, ?_⟩
    have hb1 : Below w.heap.size w (w2.drewN q2) := ⟨hb.os, hb.tape, hb.output, hb.size, hb.block⟩
    exact hb1.trans (hb3.mono hb.size)

theorem w_ranges (a0 : Int) (w0 : (Lit.int .i64 a0).wf = true) (a1 : Int) (w1 : (Lit.int .i64 a1).wf = true) (w : World) :
    Calls Try.prog 9 #[.int .i64 a0, .int .i64 a1] w fun e w' => e = .returned (.bool true) ∧ Below w.heap.size w w' := by
  obtain ⟨h3, h4⟩ := b_i64 w1
  clear w0 w1
  have d1 := Lib.hid (fun W => fits_any a0 a1 W h3 h4)
  have d2 := Lib.hid (fun W => rfits_any a0 a1 W h3 h4)
  have d3 := Lib.hid (fun W => ends_any a0 W)
  have d4 := Lib.hid (fun W => rends_any a0 W)
  generalize fitsOf a0 a1 = F1 at *
  generalize leastOf a0 = L at *
  generalize mostOf a0 = M at *
  generalize decide (widthOf a0 ≠ 0) = ok at *
  go_enter Try.func9, Try.ntmps9
  go_wp2_with fail
  refine (d1.out _).mono ?_
  rintro e w' ⟨rfl, rfl⟩
  go_wp2_with fail
  refine (d2.out _).mono ?_
  rintro e w2 ⟨rfl, hb⟩
  go_wp2_with fail
  refine (d3.out _).mono ?_
  rintro e w' ⟨rfl, q2, rfl⟩
  go_wp2_with fail
  refine (d4.out _).mono ?_
  rintro e w3 ⟨rfl, hb3⟩
  go_wp2_with fail
  refine (awake_any _).mono ?_
  rintro e w' ⟨rfl, rfl⟩
  go_wp2
  go_ret
  refine ⟨rfl, ?_⟩
  have hb1 : Below w.heap.size w (w2.drewN q2) := ⟨hb.os, hb.tape, hb.output, hb.size, hb.block⟩
  exact hb1.trans (hb3.mono hb.size)
end Go.Proofs.Ytffpjnabbmimgaa
