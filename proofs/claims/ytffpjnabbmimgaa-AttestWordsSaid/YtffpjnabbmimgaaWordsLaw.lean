/- The walk of AttestWords over the contracts. -/
import Derived.Test.YtffpjnabbmimgaaBitsC
import Derived.Test.YtffpjnabbmimgaaLimbB
import Derived.Test.YtffpjnabbmimgaaAmong
import Derived.Test.YtffpjnabbmimgaaOpen
namespace Go.Proofs.Ytffpjnabbmimgaa
open Go.RowKit

/-- what the law says of each kind -/
theorem kind_fits (k : Int) (hk1 : 1 ≤ k) (hk2 : k ≤ 8) (U : Nat) (hU : U < 18446744073709551616) :
    (fitsOf k (wrap64 U) = true → k = 8 ∨ (wrapOf k U : Int) = U) ∧ (fitsOf k (wrap64 U) = false → k = 8 ∨ k ≠ 4 ∧ (wrapOf k U : Int) ≠ U) := by
  have e1 : leastOf 1 = -128 := by decide
  have e2 : leastOf 2 = -32768 := by decide
  have e3 : leastOf 3 = -2147483648 := by decide
  have e4 : leastOf 4 = -9223372036854775808 := by decide
  have e5 : leastOf 5 = 0 := by decide
  have e6 : leastOf 6 = 0 := by decide
  have e7 : leastOf 7 = 0 := by decide
  have m1 : mostOf 1 = 127 := by decide
  have m2 : mostOf 2 = 32767 := by decide
  have m3 : mostOf 3 = 2147483647 := by decide
  have m4 : mostOf 4 = 9223372036854775807 := by decide
  have m5 : mostOf 5 = 255 := by decide
  have m6 : mostOf 6 = 65535 := by decide
  have m7 : mostOf 7 = 4294967295 := by decide
  have hw0 : widthOf 1 ≠ 0 ∧ widthOf 2 ≠ 0 ∧ widthOf 3 ≠ 0 ∧ widthOf 4 ≠ 0 ∧ widthOf 5 ≠ 0 ∧ widthOf 6 ≠ 0 ∧ widthOf 7 ≠ 0 ∧ widthOf 8 ≠ 0 := by decide
  have hcases : k = 1 ∨ k = 2 ∨ k = 3 ∨ k = 4 ∨ k = 5 ∨ k = 6 ∨ k = 7 ∨ k = 8 := by omega
  rcases hcases with rfl | rfl | rfl | rfl | rfl | rfl | rfl | rfl
  · rw [← wrap_1 U hU]
    unfold fitsOf
    simp only [e1, m1, hw0, wrap64, IntKind.wrap, IntKind.bits, IntKind.signed]
    simp
    constructor <;> intro h <;> (try split) <;> (try split) <;> omega
  · rw [← wrap_2 U hU]
    unfold fitsOf
    simp only [e2, m2, hw0, wrap64, IntKind.wrap, IntKind.bits, IntKind.signed]
    simp
    constructor <;> intro h <;> (try split) <;> (try split) <;> omega
  · rw [← wrap_3 U hU]
    unfold fitsOf
    simp only [e3, m3, hw0, wrap64, IntKind.wrap, IntKind.bits, IntKind.signed]
    simp
    constructor <;> intro h <;> (try split) <;> (try split) <;> omega
  · rw [wrap_4 U hU]
    unfold fitsOf
    simp only [e4, m4, hw0, wrap64]
    simp
    omega
  · rw [wrap_5 U hU]
    unfold fitsOf
    simp only [e5, m5, hw0, wrap64]
    simp
    omega
  · rw [wrap_6 U hU]
    unfold fitsOf
    simp only [e6, m6, hw0, wrap64]
    simp
    omega
  · rw [wrap_7 U hU]
    unfold fitsOf
    simp only [e7, m7, hw0, wrap64]
    simp
    omega
  · exact ⟨fun _ => .inl rfl, fun _ => .inl rfl⟩

theorem field_split (U k : Nat) (hU : U < 18446744073709551616) (hk : k ≤ 64) : putOf (fieldOf U 0 k) k (64 - k) (fieldOf U k (64 - k)) = U := by
  refine ofBits_row _ _ hU fun i hi => ?_
  unfold putBit fieldOf
  by_cases h : k ≤ i ∧ i < k + (64 - k)
  · rw [if_pos h, Nat.testBit_mod_two_pow, Nat.testBit_div_two_pow]
    have h1 : i - k < 64 - k := by omega
    have h2 : i - k + k = i := by omega
    simp [h1, h2]
  · rw [if_neg h, Nat.testBit_mod_two_pow]
    have h1 : i < k := by omega
    simp [h1]
theorem limbs_two (N : Nat) (h : N < 18446744073709551616) : (limbs N).length ≤ 2 := by
  have e := lv_two N h
  have hs : small [N % 4294967296, N / 4294967296] := by intro x hx; simp at hx; omega
  have := limbs_length_le _ hs
  rw [e] at this
  exact this
theorem limbs_short (N k : Nat) (h : N < 2 ^ (32 * k)) : (limbs N).length ≤ k := by
  induction k generalizing N with
  | zero =>
    have : N = 0 := by simpa using h
    subst this; rw [limbs_zero]; simp
  | succ k ih =>
    by_cases hz : N = 0
    · subst hz; rw [limbs_zero]; simp
    · rw [limbs_pos N hz]
      have e : 2 ^ (32 * (k + 1)) = 2 ^ (32 * k) * 4294967296 := by rw [Nat.mul_add 32, Nat.pow_add]
      have := ih (N / 4294967296) (by rw [Nat.div_lt_iff_lt_mul (by decide), ← e]; exact h)
      simpa using this

set_option maxRecDepth 100000 in
set_option maxHeartbeats 2000000 in
theorem w_words (a0 : Int) (w0 : (Lit.int .u64 a0).wf = true) (a1 : Int) (w1 : (Lit.int .i64 a1).wf = true) (a2 : Int) (w2 : (Lit.int .i64 a2).wf = true) (w : World) :
    Calls Try.prog 11 #[.int .u64 a0, .int .i64 a1, .int .i64 a2] w fun e w' => e = .returned (.bool true) ∧ Below w.heap.size w w' := by
  obtain ⟨h1, h2⟩ := b_u64 w0
  obtain ⟨h3, h4⟩ := b_i64 w1
  obtain ⟨h5, h6⟩ := b_i64 w2
  clear w0 w1 w2
  obtain ⟨U, rfl⟩ := Int.eq_ofNat_of_zero_le h1
  have hU : U < 18446744073709551616 := by omega
  have d1 := fun W => zig_any (-3) W (by decide) (by decide)
  have d2 := fun W => zag_any 5 W (by decide) (by decide)
  rw [show zig (-3) = 5 from by decide] at d1
  rw [show zag 5 = -3 from by decide] at d2
  have d1 := Lib.hid d1
  have d2 := Lib.hid d2
  have d3 := fun W => among_any a1 65 W (by decide) (by decide) h3 h4
  have d4 := fun W => among_any a2 64 W (by decide) (by decide) h5 h6
  have hk1 : 0 ≤ a1 % 65 := by omega
  have hk2 : a1 % 65 < 65 := by omega
  have hm1 : 0 ≤ a2 % 64 := by omega
  have hm2 : a2 % 64 < 64 := by omega
  generalize a1 % 65 = k at *
  generalize a2 % 64 = m at *
  obtain ⟨K, rfl⟩ := Int.eq_ofNat_of_zero_le hk1
  obtain ⟨M, rfl⟩ := Int.eq_ofNat_of_zero_le hm1
  have D3 := Lib.hid d3
  have D4 := Lib.hid d4
  have hfs := field_split U K hU (by omega)
  have e1 := fun W => field_yes U 0 K W (by omega) (by omega)
  have e2 := fun W => field_yes U K (64 - K) W (by omega) (by omega)
  have hl1 := fieldOf_le U 0 K
  have hl2 := fieldOf_le U K (64 - K)
  have e3 := fun W => put_yes (fieldOf U 0 K) K (64 - K) (fieldOf U K (64 - K)) W (by omega) (by omega) (by omega)
  rw [hfs] at e3
  generalize fieldOf U 0 K = LO at *
  generalize fieldOf U K (64 - K) = HI at *
  have hcast : ((64 - K : Nat) : Int) = 64 - (K : Int) := by omega
  rw [hcast] at e2 e3
  have E1 := Lib.hid e1; have E2 := Lib.hid e2; have E3 := Lib.hid e3
  have HU := Lib.hid hU
  clear d3 d4 e1 e2 e3 hfs hcast h1 h2 h3 h4 h5 h6 hl1 hl2 hU
  go_enter Try.func11, Try.ntmps11
  go_wp2_with fail
  refine (d1.out _).mono ?_
  rintro e w' ⟨rfl, rfl⟩
  go_wp2_with fail
  refine (d2.out _).mono ?_
  rintro e w' ⟨rfl, rfl⟩
  go_wp2_with fail
  refine (D3.out _).mono ?_
  rintro e w' ⟨rfl, rfl⟩
  go_wp2_with fail
  refine (E1.out _).mono ?_
  rintro e w' ⟨rfl, q1, rfl⟩
  go_wp2_with fail
  refine (E2.out _).mono ?_
  rintro e w' ⟨rfl, q2, rfl⟩
  go_wp2_with fail
  refine (E3.out _).mono ?_
  rintro e w' ⟨rfl, q3, rfl⟩
  go_wp2_with fail
  go_loop [14, 15, 16, 17, 18] (fun kd _ _ _ _ => ∃ j : Nat, j ≤ 8 ∧ kd = .int .i64 ((j : Int) + 1)) (fun kd _ _ _ _ => 9 - (intOf kd).toNat)
  case atStart => exact ⟨0, by omega, rfl⟩
  case round =>
    obtain ⟨j, hj, rfl⟩ := hrel
    by_cases hlt : j < 8
    · have c1 := fun W => wrap_any ((j : Int) + 1) U W (by have := HU.out; omega)
      have c2 := fun W => fits_any ((j : Int) + 1) (wrap64 U) W (by unfold wrap64; omega) (by unfold wrap64; omega)
      have hkf := kind_fits ((j : Int) + 1) (by omega) (by omega) U HU.out
      have hwd : decide (widthOf ((j : Int) + 1) ≠ 0) = true := by
        have : j = 0 ∨ j = 1 ∨ j = 2 ∨ j = 3 ∨ j = 4 ∨ j = 5 ∨ j = 6 ∨ j = 7 := by omega
        rcases this with rfl | rfl | rfl | rfl | rfl | rfl | rfl | rfl <;> decide
      rw [hwd] at c1 c2
      generalize wrapOf ((j : Int) + 1) U = P at *
      generalize fitsOf ((j : Int) + 1) (wrap64 U) = F at *
      have C1 := Lib.hid c1
      have C2 := Lib.hid c2
      clear c1 c2 hwd
      cases F with
      | true =>
        by_cases h8 : 7 ≤ j
        · clear hkf
          go_wp2_with fail
          refine (C1.out _).mono ?_
          rintro e w' ⟨rfl, rfl⟩
          go_wp2_with fail
          refine (C2.out _).mono ?_
          rintro e w' ⟨rfl, rfl⟩
          go_wp2_with fail
          go_round
          case rel => exact ⟨j + 1, by omega, by go_num⟩
          case measure => simp [intOf]; omega
        · have hP : ((P : Int) != U) = false := by
            rcases hkf.1 rfl with h | h
            · omega
            · rw [h]; simp
          clear hkf
          go_wp2_with fail
          refine (C1.out _).mono ?_
          rintro e w' ⟨rfl, rfl⟩
          go_wp2_with fail
          refine (C2.out _).mono ?_
          rintro e w' ⟨rfl, rfl⟩
          go_wp2_with fail
          go_round
          case rel => exact ⟨j + 1, by omega, by go_num⟩
          case measure => simp [intOf]; omega
      | false =>
        by_cases h8 : 7 ≤ j
        · clear hkf
          go_wp2_with fail
          refine (C1.out _).mono ?_
          rintro e w' ⟨rfl, rfl⟩
          go_wp2_with fail
          refine (C2.out _).mono ?_
          rintro e w' ⟨rfl, rfl⟩
          go_wp2_with fail
          go_round
          case rel => exact ⟨j + 1, by omega, by go_num⟩
          case measure => simp [intOf]; omega
        · have hP : ((P : Int) == U) = false := by
            rcases hkf.2 rfl with h | h
            · omega
            · simpa using h.2
          clear hkf
          go_wp2_with fail
          refine (C1.out _).mono ?_
          rintro e w' ⟨rfl, rfl⟩
          go_wp2_with fail
          refine (C2.out _).mono ?_
          rintro e w' ⟨rfl, rfl⟩
          go_wp2_with fail
          go_round
          case rel => exact ⟨j + 1, by omega, by go_num⟩
          case measure => simp [intOf]; omega
    · clear d1 d2 D3 E1 E2 E3
      have hU := HU.out
      have f1 := Lib.hid (fun W => word_any U W hU)
      go_wp2_with fail
      refine (D4.out _).mono ?_
      rintro e w' ⟨rfl, rfl⟩
      go_wp2_with fail
      refine (f1.out _).mono ?_
      rintro e w1 ⟨v1, rfl, hown1, hb1⟩
      obtain ⟨A1, c1, rfl, hc1, hr1⟩ := ownsRow_form hown1
      have hl2 := limbs_two U hU
      have f2 := shl_yes (limbs U) A1 _ c1 M w1 rfl (by omega) hr1 (limbs_small U) (by omega)
      rw [lv_limbs] at f2
      have F2 := Lib.hid f2
      clear f2 hr1 hown1 hU
      go_wp2_with fail
      refine F2.out.mono ?_
      rintro e w2 ⟨v2, rfl, hown2, hb2⟩
      obtain ⟨A2, c2, rfl, hc2, hr2⟩ := ownsRow_form hown2
      have hM64 : 2 ^ M ≤ 2 ^ 64 := Nat.pow_le_pow_right (by omega) (by omega)
      have hbig : U * 2 ^ M < 2 ^ (32 * 4) := by
        have h1 : U * 2 ^ M ≤ U * 2 ^ 64 := Nat.mul_le_mul_left _ hM64
        have h2 : U * 2 ^ 64 < 18446744073709551616 * 2 ^ 64 := Nat.mul_lt_mul_of_pos_right HU.out (by decide)
        have h3 : 18446744073709551616 * 2 ^ 64 = (2 : Nat) ^ (32 * 4) := by decide
        omega
      have hl4 := limbs_short _ 4 hbig
      have f3 := lowL_any (limbs (U * 2 ^ M)) A2 _ c2 w2 rfl hc2 (by omega) hr2 (limbs_small _)
      rw [lv_limbs] at f3
      generalize hN1 : U * 2 ^ M % 18446744073709551616 = N1 at f3
      have HN1 := Lib.hid hN1
      clear hN1
      have F3 := Lib.hid f3
      clear f3 hr2 hown2 hM64 hbig F2
      go_wp2_with fail
      refine F3.out.mono ?_
      rintro e w' ⟨rfl, rfl⟩
      go_wp2_with fail
      refine (f1.out _).mono ?_
      rintro e w3 ⟨v3, rfl, hown3, hb3⟩
      obtain ⟨A3, c3, rfl, hc3, hr3⟩ := ownsRow_form hown3
      have f4 := shr_yes (limbs U) A3 _ c3 M w3 rfl hc3 (by omega) hr3 (limbs_small U) (by omega)
      rw [lv_limbs] at f4
      have F4 := Lib.hid f4
      clear f4 hr3 hown3
      go_wp2_with fail
      refine F4.out.mono ?_
      rintro e w4 ⟨v4, rfl, hown4, hb4⟩
      obtain ⟨A4, c4, rfl, hc4, hr4⟩ := ownsRow_form hown4
      have hdiv : U / 2 ^ M < 18446744073709551616 := Nat.lt_of_le_of_lt (Nat.div_le_self _ _) HU.out
      have hl5 := limbs_two _ hdiv
      have f5 := lowL_any (limbs (U / 2 ^ M)) A4 _ c4 w4 rfl hc4 (by omega) hr4 (limbs_small _)
      rw [lv_limbs, Nat.mod_eq_of_lt hdiv] at f5
      have hd5 : decide ((limbs (U / 2 ^ M)).length ≤ 2) = true := by simpa using hl5
      rw [hd5] at f5
      have F5 := Lib.hid f5
      have g1 := fun W => move_any U M W (by omega) (by have := HU.out; omega)
      have g2 := fun W => move_any U (-(M : Int)) W (by omega) (by have := HU.out; omega)
      have hmv1 : moveOf (U : Int).toNat (M : Int) = U * 2 ^ M % 18446744073709551616 := by
        unfold moveOf
        rw [if_neg (by omega), if_pos (by omega), Int.toNat_natCast, Int.toNat_natCast]
      have hmv2 : moveOf (U : Int).toNat (-(M : Int)) = U / 2 ^ M := by
        unfold moveOf
        rw [if_neg (by omega), Int.toNat_natCast]
        by_cases hM0 : M = 0
        · subst hM0
          simp
          have := HU.out
          omega
        · rw [if_neg (by omega)]
          congr 2
          omega
      rw [hmv1, HN1.out] at g1
      rw [hmv2] at g2
      have G1 := Lib.hid g1
      have G2 := Lib.hid g2
      clear f5 hr4 hown4 hd5 hl5 hl4 hl2 hdiv g1 g2 hmv1 hmv2 F4
      generalize limbs (U * 2 ^ M) = L1 at *
      generalize limbs (U / 2 ^ M) = L2 at *
      generalize U / 2 ^ M = N2 at *
      go_wp2_with fail
      refine F5.out.mono ?_
      rintro e w' ⟨rfl, rfl⟩
      go_wp2_with fail
      refine (G1.out _).mono ?_
      rintro e w' ⟨rfl, rfl⟩
      go_wp2_with fail
      refine (G2.out _).mono ?_
      rintro e w' ⟨rfl, rfl⟩
      go_wp2_with fail
      go_ret
      refine ⟨rfl, ?_⟩
      have hb1' : Below w.heap.size w w1 := ⟨hb1.os, hb1.tape, hb1.output, hb1.size, hb1.block⟩
      have hb12 := hb1'.trans (hb2.mono hb1'.size)
      have hb13 := hb12.trans (hb3.mono hb12.size)
      exact hb13.trans (hb4.mono hb13.size)
end Go.Proofs.Ytffpjnabbmimgaa
