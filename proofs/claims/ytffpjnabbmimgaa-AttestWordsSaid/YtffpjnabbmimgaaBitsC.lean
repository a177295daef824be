/- Contracts: Wrap, Ends, Fits and their references; the law's own awake. -/
import Derived.Test.YtffpjnabbmimgaaBitsB
namespace Go.Proofs.Ytffpjnabbmimgaa
open Go.RowKit

theorem wrap_any (k : Int) (X : Nat) (w : World) (hX : X ≤ 18446744073709551615) :
    Calls Try.prog 12 #[.int .i64 k, .int .u64 X] w fun e w' => e = .returned (.tuple #[.int .u64 (wrapOf k X : Nat), .bool (decide (widthOf k ≠ 0))]) ∧ w = w' := by
  rcases kinds k with h | rfl | rfl | rfl | rfl | rfl | rfl | rfl | rfl
  · obtain ⟨a1, a2, a3, a4, a5, a6, a7, a8⟩ := width_0 k h
    have hv : wrapOf k X = 0 := by unfold wrapOf; rw [if_pos h]
    rw [hv, h]
    clear hv h
    go_enter Try.func12, Try.ntmps12
    go_wp2
    go_ret2
    exact ⟨rfl, rfl⟩
  · go_enter Try.func12, Try.ntmps12
    go_wp2
    go_ret2
    exact ⟨ret_int_bool (wrap_1 X (by omega)) rfl, rfl⟩
  · go_enter Try.func12, Try.ntmps12
    go_wp2
    go_ret2
    exact ⟨ret_int_bool (wrap_2 X (by omega)) rfl, rfl⟩
  · go_enter Try.func12, Try.ntmps12
    go_wp2
    go_ret2
    refine ⟨ret_int_bool ?_ rfl, rfl⟩
    rw [← wrap_3 X (by omega), IntWalk.i32_left]
  · go_enter Try.func12, Try.ntmps12
    go_wp2
    go_ret2
    exact ⟨ret_int_bool (by rw [wrap_4 X (by omega)]) rfl, rfl⟩
  · go_enter Try.func12, Try.ntmps12
    go_wp2
    go_ret2
    refine ⟨ret_int_bool ?_ rfl, rfl⟩
    rw [wrap_5 X (by omega)]
    show (X : Int) % 256 = _
    omega
  · go_enter Try.func12, Try.ntmps12
    go_wp2
    go_ret2
    refine ⟨ret_int_bool ?_ rfl, rfl⟩
    rw [wrap_6 X (by omega)]
    show IntKind.u64.wrap (IntKind.u16.wrap (X : Int)) = _
    rw [IntKind.wrap_u64, IntKind.wrap_u16]
    omega
  · go_enter Try.func12, Try.ntmps12
    go_wp2
    go_ret2
    refine ⟨ret_int_bool ?_ rfl, rfl⟩
    rw [wrap_7 X (by omega)]
    show (X : Int) % 4294967296 = _
    omega
  · go_enter Try.func12, Try.ntmps12
    go_wp2
    go_ret2
    exact ⟨ret_int_bool (by rw [wrap_8 X (by omega)]) rfl, rfl⟩

theorem ret3 {a c : Int} {b d : Int} {p q : Bool} (h1 : a = c) (h2 : b = d) (h3 : p = q) : Ending.returned (.tuple #[.int .i64 a, .int .u64 b, .bool p]) = .returned (.tuple #[.int .i64 c, .int .u64 d, .bool q]) := by rw [h1, h2, h3]
theorem ends_any (k : Int) (w : World) :
    Calls Try.prog 34 #[.int .i64 k] w fun e w' => e = .returned (.tuple #[.int .i64 (leastOf k), .int .u64 (mostOf k : Nat), .bool (decide (widthOf k ≠ 0))]) ∧ ∃ q, w' = w.drewN q := by
  rcases kinds k with h | rfl | rfl | rfl | rfl | rfl | rfl | rfl | rfl
  · obtain ⟨a1, a2, a3, a4, a5, a6, a7, a8⟩ := width_0 k h
    obtain ⟨e1, e2, _⟩ := ends_0 k h
    rw [e1, e2, h]
    clear e1 e2 h
    go_enter Try.func34, Try.ntmps34
    go_wp2
    go_ret3
    exact ⟨rfl, 0, rfl⟩
  all_goals
    go_enter Try.func34, Try.ntmps34
    go_wp2
    go_quiet (fail)
    go_wp2
    go_ret3
    exact ⟨ret3 (by decide) (by decide) rfl, nq, rfl⟩
theorem rends_any (k : Int) (w : World) :
    Calls Try.prog 35 #[.int .i64 k] w fun e w' => e = .returned (.tuple #[.int .i64 (leastOf k), .int .u64 (mostOf k : Nat), .bool (decide (widthOf k ≠ 0))]) ∧ Below w.heap.size w w' := by
  obtain ⟨i0, hi, hz0, hz1, hz2⟩ := info_parts info_bool
  have hle := width_le k
  have hlt : mostOf k ≤ 18446744073709551615 ∧ (signedOf k = true → mostOf k ≤ 9223372036854775807) := by
    have h1 : 2 ^ (if signedOf k = true then widthOf k - 1 else widthOf k) ≤ 2 ^ 64 := Nat.pow_le_pow_right (by omega) (by split <;> omega)
    have h2 : (2 : Nat) ^ 64 = 18446744073709551616 := by decide
    refine ⟨by unfold mostOf; split <;> omega, fun hs => ?_⟩
    have h3 : 2 ^ (widthOf k - 1) ≤ 2 ^ 63 := Nat.pow_le_pow_right (by omega) (by omega)
    have h4 : (2 : Nat) ^ 63 = 9223372036854775808 := by decide
    unfold mostOf
    rw [if_pos hs]
    split <;> omega
  have hend : widthOf k ≠ 0 → ofBits (row (el (widthOf k) (signedOf k) (widthOf k))) = mostOf k := fun h => by rw [el_end _ _ (by omega) hle]; unfold mostOf; rw [if_neg h]
  have hl : widthOf k ≠ 0 → leastOf k = if signedOf k = true then -(mostOf k : Int) - 1 else 0 := fun h => by unfold leastOf; rw [if_neg h]
  have hz := ends_0 k
  have hwid := width_any k w
  generalize widthOf k = W at *
  generalize hs : signedOf k = s at *
  clear hs
  by_cases h0 : W = 0
  · subst h0
    obtain ⟨e1, e2, _⟩ := hz rfl
    rw [e1, e2]
    clear e1 e2 hz hend hl hlt
    go_enter Try.func35, Try.ntmps35
    go_wp2_with fail
    refine hwid.mono ?_
    rintro e w' ⟨rfl, rfl⟩
    go_wp2
    go_ret3
    exact ⟨rfl, Below.refl _ _⟩
  · have hd : decide (W ≠ 0) = true := by simpa using h0
    rw [hd, hl h0]
    have he := Lib.hid (hend h0)
    generalize mostOf k = M at *
    have h1 : 1 ≤ W := by omega
    have hb0 : ((W : Int) == 0) = false := by simpa using h0
    clear hd hend hl hz h0
    go_enter Try.func35, Try.ntmps35
    go_wp2_with fail
    refine hwid.mono ?_
    rintro e w' ⟨rfl, rfl⟩
    clear hwid
    go_wp2_with (at_make; refine make1 w.heap.size w w rfl _ _ 66 rfl 4 i0 (.bool false) 1 Try.underlying66 hi hz0 hz1 hz2 rfl (by decide) .i64 .i64 64 64 64 rfl rfl rfl rfl (by decide) ((row (el W s 0)).map Value.bool) (by rw [← el_start]; rfl) (Nat.le_refl _) (Below.refl _ _) ?_)
    intro w2 hown2 hb2 _
    go_wp2_with fail
    go_loopw [8] (fun i wr => ∃ k : Nat, k ≤ W ∧ i = .int .i64 k ∧ wr.ownsRow w.heap.size 4 1 (.slice (some ⟨w.heap.size, 0, none⟩) 64 64) 64 ((row (el W s k)).map Value.bool) ∧ Below w.heap.size w wr)
      (fun i _ => W - (intOf i).toNat)
    case atStart => exact ⟨0, by omega, rfl, hown2, hb2⟩
    case round =>
      clear hown2 hb2
      obtain ⟨k, hk1, rfl, hown, hbr⟩ := hrel
      by_cases hk : k < W
      · have c2 := (hown.cellAt k (by omega)).trans (show _ = some (Value.bool (el W s k k)) by rw [List.getElem?_map, row_get _ _ (by omega)]; rfl)
        have f2 := hown.frozenAt k
        have hst := (hown.stored k (.bool (!s || decide (k < W - 1)))).1
        rw [← List.map_set, el_step W s k (by omega)] at hst
        have hb3 := hbr.setCell (p := ⟨w.heap.size, k, none⟩) (Nat.le_refl _) (.bool (!s || decide (k < W - 1)))
        clear hown hbr
        cases s
        · go_wp2_with fail
          go_roundw
          case rel => exact ⟨k + 1, by omega, by go_num, hst, hb3⟩
          case measure => simp [intOf]; omega
        · have hdd : decide ((k : Int) < (W : Int) - 1) = decide (k < W - 1) := by rw [decide_eq_decide]; omega
          go_wp2_with fail
          go_roundw
          case rel => exact ⟨k + 1, by omega, by go_num, hst, hb3⟩
          case measure => simp [intOf]; omega
      · obtain rfl : k = W := by omega
        obtain ⟨A', c', hv, _, hrd⟩ := ownsRow_form hown
        injection hv with hA _ hc'
        subst hA; subst hc'
        go_wp2_with fail
        refine (rfrom_any (row (el k s k)) 64 _ 64 wr (row_length _) (by rw [row_length]; omega) hrd).mono ?_
        rintro e w' ⟨rfl, rfl⟩
        rw [he.out]
        obtain ⟨hm1, hm2⟩ := hlt
        cases s
        · clear hm2 hm1 he hown hk hk1 hle h1 hb0 hrd
          go_wp2
          go_ret3
          exact ⟨rfl, hbr⟩
        · have hm3 := hm2 rfl
          clear hm2 hm1 he hown hk hk1 hle h1 hb0 hrd
          go_wp2
          go_ret3
          exact ⟨rfl, hbr⟩
theorem ret_bool2 {a b c d : Bool} (h1 : a = c) (h2 : b = d) : Ending.returned (.tuple #[.bool a, .bool b]) = .returned (.tuple #[.bool c, .bool d]) := by rw [h1, h2]
theorem fits_any (k x : Int) (w : World) (hx1 : -9223372036854775808 ≤ x) (hx2 : x ≤ 9223372036854775807) :
    Calls Try.prog 32 #[.int .i64 k, .int .i64 x] w fun e w' => e = .returned (.tuple #[.bool (fitsOf k x), .bool (decide (widthOf k ≠ 0))]) ∧ w = w' := by
  rcases kinds k with h | rfl | rfl | rfl | rfl | rfl | rfl | rfl | rfl
  · obtain ⟨a1, a2, a3, a4, a5, a6, a7, a8⟩ := width_0 k h
    obtain ⟨_, _, e3⟩ := ends_0 k h
    rw [e3 x, h]
    clear e3 h
    go_enter Try.func32, Try.ntmps32
    go_wp2
    go_ret2
    exact ⟨rfl, rfl⟩
  all_goals
    go_enter Try.func32, Try.ntmps32
    go_wp2
    go_ret2
    refine ⟨ret_bool2 ?_ rfl, rfl⟩
    have e1 : leastOf 1 = -128 := by decide
    have e2 : leastOf 2 = -32768 := by decide
    have e3 : leastOf 3 = -2147483648 := by decide
    have e4 : leastOf 4 = -9223372036854775808 := by decide
    have e5 : leastOf 5 = 0 := by decide
    have e6 : leastOf 6 = 0 := by decide
    have e7 : leastOf 7 = 0 := by decide
    have e8 : leastOf 8 = 0 := by decide
    have m1 : mostOf 1 = 127 := by decide
    have m2 : mostOf 2 = 32767 := by decide
    have m3 : mostOf 3 = 2147483647 := by decide
    have m4 : mostOf 4 = 9223372036854775807 := by decide
    have m5 : mostOf 5 = 255 := by decide
    have m6 : mostOf 6 = 65535 := by decide
    have m7 : mostOf 7 = 4294967295 := by decide
    have m8 : mostOf 8 = 18446744073709551615 := by decide
    have hw0 : widthOf 1 ≠ 0 ∧ widthOf 2 ≠ 0 ∧ widthOf 3 ≠ 0 ∧ widthOf 4 ≠ 0 ∧ widthOf 5 ≠ 0 ∧ widthOf 6 ≠ 0 ∧ widthOf 7 ≠ 0 ∧ widthOf 8 ≠ 0 := by decide
    unfold fitsOf
    simp only [e1, e2, e3, e4, e5, e6, e7, e8, m1, m2, m3, m4, m5, m6, m7, m8, hw0, wrap64, wrap32, IntKind.wrap, IntKind.bits, IntKind.signed]
    rw [Bool.eq_iff_iff]
    simp
    try omega
theorem rfits_any (k x : Int) (w : World) (hx1 : -9223372036854775808 ≤ x) (hx2 : x ≤ 9223372036854775807) :
    Calls Try.prog 33 #[.int .i64 k, .int .i64 x] w fun e w' => e = .returned (.tuple #[.bool (fitsOf k x), .bool (decide (widthOf k ≠ 0))]) ∧ Below w.heap.size w w' := by
  have he := rends_any k w
  unfold fitsOf
  generalize leastOf k = L at *
  generalize mostOf k = M at *
  by_cases h0 : widthOf k = 0
  · have hd : decide (widthOf k ≠ 0) = false := by simpa using h0
    rw [hd] at he ⊢
    rw [h0]
    go_enter Try.func33, Try.ntmps33
    go_wp2_with fail
    refine he.mono ?_
    rintro e w' ⟨rfl, hb⟩
    go_wp2
    go_ret2
    exact ⟨ret_bool2 (by simp) rfl, hb⟩
  · have hd : decide (widthOf k ≠ 0) = true := by simpa using h0
    rw [hd] at he ⊢
    generalize widthOf k = W at *
    clear hd
    by_cases h1 : L ≤ x
    · by_cases h2 : x < 0
      · go_enter Try.func33, Try.ntmps33
        go_wp2_with fail
        refine he.mono ?_
        rintro e w' ⟨rfl, hb⟩
        go_wp2
        go_ret2
        exact ⟨ret_bool2 (by simp [h0, h1, h2]) rfl, hb⟩
      · go_enter Try.func33, Try.ntmps33
        go_wp2_with fail
        refine he.mono ?_
        rintro e w' ⟨rfl, hb⟩
        go_wp2
        go_ret2
        refine ⟨ret_bool2 ?_ rfl, hb⟩
        simp [h0, h1]
    · go_enter Try.func33, Try.ntmps33
      go_wp2_with fail
      refine he.mono ?_
      rintro e w' ⟨rfl, hb⟩
      go_wp2
      go_ret2
      refine ⟨ret_bool2 ?_ rfl, hb⟩
      simp; omega
theorem awake_any (w : World) :
    Calls Try.prog 14 #[] w fun e w' => e = .returned (.bool true) ∧ w = w' := by
  have hw := wrap_any 1 200 w (by decide)
  have e1 : wrapOf 1 200 = 18446744073709551560 := by
    have := wrap_1 200 (by decide)
    have h2 : IntKind.u64.wrap (IntKind.i8.wrap ((200 : Nat) : Int)) = 18446744073709551560 := by decide
    rw [h2] at this
    omega
  have e2 : decide (widthOf 1 ≠ 0) = true := by decide
  rw [e1, e2] at hw
  have hz := zig_any (-1) w (by decide) (by decide)
  have e3 : zig (-1) = 1 := by decide
  rw [e3] at hz
  have hs := shift_any (-5) (-1) w (by decide) (by decide)
  have e4 : shiftOf (-5) (-1) = -3 := by decide
  rw [e4] at hs
  clear e1 e2 e3 e4
  go_enter Try.func14, Try.ntmps14
  go_wp2_with fail
  refine hw.mono ?_
  rintro e w' ⟨rfl, rfl⟩
  go_wp2_with fail
  refine hz.mono ?_
  rintro e w' ⟨rfl, rfl⟩
  go_wp2_with fail
  refine hs.mono ?_
  rintro e w' ⟨rfl, rfl⟩
  go_wp2
  go_ret
  exact ⟨rfl, rfl⟩
end Go.Proofs.Ytffpjnabbmimgaa
