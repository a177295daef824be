/- Plain arithmetic of bits, third part: shifts, turns, fields, ends. No program in sight. -/
import Derived.Test.YtlbbbafehhdpnaaGreatDoorBitMath
namespace Go.Proofs.YtlbbbafehhdpnaaGreatDoor
set_option linter.unusedVariables false
set_option linter.unusedSimpArgs false

/-! ### shifts -/
def mv (x : Nat) (n : Int) (fill : Bool) (i : Nat) : Bool :=
  if 64 ≤ n then false
  else if n ≤ -64 then fill
  else if 0 ≤ n then decide (n ≤ (i : Int)) && x.testBit (i - n.toNat)
  else if (i : Int) - n < 64 then x.testBit (i + (-n).toNat)
  else fill
def mvOf (x : Nat) (n : Int) (fill : Bool) : Nat := ofBits (row (mv x n fill))
theorem mvOf_lt (x : Nat) (n : Int) (fill : Bool) : mvOf x n fill < 18446744073709551616 := ofBits_row_lt _

theorem two64 : (18446744073709551616 : Nat) = 2 ^ 64 := by decide
theorem testBit_high (x i : Nat) (hx : x < 18446744073709551616) (hi : 64 ≤ i) : x.testBit i = false :=
  Nat.testBit_lt_two_pow (Nat.lt_of_lt_of_le (by rw [two64] at hx; exact hx) (Nat.pow_le_pow_right (by omega) hi))

theorem mv_over (x : Nat) (n : Int) (fill : Bool) (h : 64 ≤ n) : mvOf x n fill = 0 :=
  ofBits_row _ _ (by decide) fun i hi => by unfold mv; rw [if_pos h]; simp
theorem mv_under (x : Nat) (n : Int) (h : n ≤ -64) : mvOf x n true = 18446744073709551615 :=
  ofBits_row _ _ (by decide) fun i hi => by
    unfold mv; rw [if_neg (by omega), if_pos h]
    have e : (18446744073709551615 : Nat) = 2 ^ 64 - 1 := by decide
    rw [e, Nat.testBit_two_pow_sub_one]; simp [hi]
theorem mv_under0 (x : Nat) (n : Int) (h : n ≤ -64) : mvOf x n false = 0 :=
  ofBits_row _ _ (by decide) fun i hi => by unfold mv; rw [if_neg (by omega), if_pos h]; simp
theorem mv_left (x : Nat) (n : Nat) (fill : Bool) (h : n < 64) : mvOf x n fill = x * 2 ^ n % 18446744073709551616 :=
  ofBits_row _ _ (Nat.mod_lt _ (by decide)) fun i hi => by
    unfold mv; rw [if_neg (by omega), if_neg (by omega), if_pos (by omega), two64, Nat.testBit_mod_two_pow, Nat.testBit_mul_two_pow]
    simp [hi]
theorem mv_right0 (x : Nat) (n : Nat) (h0 : 0 < n) (h : n < 64) (hx : x < 18446744073709551616) : mvOf x (-(n : Int)) false = x / 2 ^ n :=
  ofBits_row _ _ (Nat.lt_of_le_of_lt (Nat.div_le_self _ _) hx) fun i hi => by
    unfold mv; rw [if_neg (by omega), if_neg (by omega), if_neg (by omega), Nat.testBit_div_two_pow]
    have e : (- -(n : Int)).toNat = n := by omega
    rw [e]
    split
    · rfl
    · rw [testBit_high x _ hx (by omega)]
theorem mv_right1 (x : Nat) (n : Nat) (h0 : 0 < n) (h : n < 64) (hx : x < 18446744073709551616) : mvOf x (-(n : Int)) true = x / 2 ^ n + (18446744073709551616 - 2 ^ (64 - n)) := by
  have hp : 2 ^ (64 - n) * 2 ^ n = 18446744073709551616 := by
    have e : (64 - n) + n = 64 := by omega
    rw [← Nat.pow_add, e]
  have hlt : x / 2 ^ n < 2 ^ (64 - n) := by
    rw [Nat.div_lt_iff_lt_mul (Nat.pow_pos (by omega)), hp]; exact hx
  have hle : 2 ^ (64 - n) ≤ 18446744073709551616 := by rw [two64]; exact Nat.pow_le_pow_right (by omega) (by omega)
  have e2 : 18446744073709551616 - 2 ^ (64 - n) = 2 ^ (64 - n) * (2 ^ n - 1) := by rw [Nat.mul_sub, hp, Nat.mul_one]
  refine ofBits_row _ _ (by omega) fun i hi => ?_
  rw [e2, Nat.add_comm, Nat.testBit_two_pow_mul_add _ hlt]
  unfold mv; rw [if_neg (by omega), if_neg (by omega), if_neg (by omega)]
  have e : (- -(n : Int)).toNat = n := by omega
  rw [e]
  by_cases h1 : i < 64 - n
  · rw [if_pos (by omega), if_pos h1, Nat.testBit_div_two_pow]
  · rw [if_neg (by omega), if_neg h1, Nat.testBit_two_pow_sub_one]
    symm; simp; omega

/-- Shift, as the code has it. -/
def shiftOf (x n : Int) : Int :=
  if 64 ≤ n then 0 else if 0 ≤ n then RowKit.wrap64 (x * 2 ^ n.toNat) else if n ≤ -64 then x / 9223372036854775808 else x / 2 ^ (-n).toNat
def moveOf (x : Nat) (n : Int) : Nat :=
  if 64 ≤ n ∨ n ≤ -64 then 0 else if 0 ≤ n then x * 2 ^ n.toNat % 18446744073709551616 else x / 2 ^ (-n).toNat

theorem move_mv (x : Nat) (n : Int) (hx : x < 18446744073709551616) : moveOf x n = mvOf x n false := by
  unfold moveOf
  by_cases h1 : 64 ≤ n
  · rw [if_pos (Or.inl h1), mv_over x n _ h1]
  · by_cases h2 : n ≤ -64
    · rw [if_pos (Or.inr h2), mv_under0 x n h2]
    · rw [if_neg (by omega)]
      by_cases h3 : 0 ≤ n
      · rw [if_pos h3]
        obtain ⟨m, rfl⟩ := Int.eq_ofNat_of_zero_le h3
        exact (mv_left x m false (by omega)).symm
      · rw [if_neg h3]
        obtain ⟨m, hm⟩ := Int.eq_ofNat_of_zero_le (show 0 ≤ -n by omega)
        obtain rfl : n = -(m : Int) := by omega
        have e : (- -(m : Int)).toNat = m := by omega
        rw [e]
        exact (mv_right0 x m (by omega) (by omega) hx).symm

theorem shift_mv (x n : Int) (h1 : -9223372036854775808 ≤ x) (h2 : x ≤ 9223372036854775807) :
    IntKind.u64.wrap (shiftOf x n) = (mvOf (IntKind.u64.wrap x).toNat n (decide (x < 0)) : Nat) := by
  rw [IntKind.wrap_u64 x]
  unfold shiftOf
  by_cases a1 : 64 ≤ n
  · rw [if_pos a1, mv_over _ n _ a1]; decide
  · rw [if_neg a1]
    by_cases a2 : 0 ≤ n
    · rw [if_pos a2]
      obtain ⟨m, rfl⟩ := Int.eq_ofNat_of_zero_le a2
      rw [mv_left _ m _ (by omega)]
      rw [IntKind.wrap_u64]
      unfold RowKit.wrap64
      rw [Int.toNat_natCast]
      rw [Int.natCast_emod, Int.natCast_mul]
      have e0 : (((x % 18446744073709551616).toNat : Nat) : Int) = x % 18446744073709551616 := by omega
      rw [e0]
      have e1 : ((2 ^ m : Nat) : Int) = 2 ^ m := by simp
      rw [e1]
      have e2 : (x % 18446744073709551616 * 2 ^ m) % (18446744073709551616 : Nat) = (x * 2 ^ m) % 18446744073709551616 := by
        show (x % 18446744073709551616 * 2 ^ m) % 18446744073709551616 = _
        rw [Int.mul_emod, Int.emod_emod, ← Int.mul_emod]
      rw [e2]
      generalize x * 2 ^ m = y
      omega
    · rw [if_neg a2]
      by_cases a3 : n ≤ -64
      · rw [if_pos a3, IntKind.wrap_u64]
        by_cases hx : x < 0
        · simp only [hx, decide_true]
          rw [mv_under _ n a3]; omega
        · simp only [hx, decide_false]
          rw [mv_under0 _ n a3]; omega
      · rw [if_neg a3]
        obtain ⟨m, hm⟩ := Int.eq_ofNat_of_zero_le (show 0 ≤ -n by omega)
        obtain rfl : n = -(m : Int) := by omega
        have e : (- -(m : Int)).toNat = m := by omega
        rw [e]
        by_cases hx : x < 0
        · simp only [hx, decide_true]
          have hX : x % 18446744073709551616 = x + 18446744073709551616 := by omega
          rw [hX]
          obtain ⟨X, hX2⟩ := Int.eq_ofNat_of_zero_le (show 0 ≤ x + 18446744073709551616 by omega)
          rw [hX2, Int.toNat_natCast, mv_right1 X m (by omega) (by omega) (by omega), IntKind.wrap_u64]
          have hx' : x = (X : Int) + (-(2 ^ (64 - m) : Nat) : Int) * (2 ^ m : Nat) := by
            have hp : 2 ^ (64 - m) * 2 ^ m = 18446744073709551616 := by
              have e : (64 - m) + m = 64 := by omega
              rw [← Nat.pow_add, e]
            have : ((2 ^ (64 - m) : Nat) : Int) * ((2 ^ m : Nat) : Int) = 18446744073709551616 := by rw [← Int.natCast_mul, hp]; rfl
            rw [Int.neg_mul, this]
            omega
          have hpos : 0 < 2 ^ m := Nat.pow_pos (by omega)
          have e5 : ((2 : Int) ^ m) = ((2 ^ m : Nat) : Int) := by simp
          rw [e5, hx', Int.add_mul_ediv_right _ _ (by omega)]
          have hle : 2 ^ (64 - m) ≤ 18446744073709551616 := by rw [two64]; exact Nat.pow_le_pow_right (by omega) (by omega)
          have hlt : X / 2 ^ m < 2 ^ (64 - m) := by
            have hp : 2 ^ (64 - m) * 2 ^ m = 18446744073709551616 := by
              have e : (64 - m) + m = 64 := by omega
              rw [← Nat.pow_add, e]
            rw [Nat.div_lt_iff_lt_mul hpos, hp]; omega
          rw [← Int.natCast_ediv]
          generalize X / 2 ^ m = q at *
          generalize 2 ^ (64 - m) = p at *
          omega
        · simp only [hx, decide_false]
          have hX : x % 18446744073709551616 = x := by omega
          rw [hX]
          obtain ⟨X, rfl⟩ := Int.eq_ofNat_of_zero_le (show 0 ≤ x by omega)
          rw [Int.toNat_natCast, mv_right0 X m (by omega) (by omega) (by omega), IntKind.wrap_u64]
          have e5 : ((2 : Int) ^ m) = ((2 ^ m : Nat) : Int) := by simp
          rw [e5, ← Int.natCast_ediv]
          have : X / 2 ^ m ≤ X := Nat.div_le_self _ _
          generalize X / 2 ^ m = q at *
          omega


/-! ### turns -/
theorem rot_or (x k : Nat) (hx : x < 4294967296) (hk : k < 32) : (x * 2 ^ k % 4294967296) ||| (x / 2 ^ (32 - k)) < 4294967296 := by
  have e : (4294967296 : Nat) = 2 ^ 32 := by decide
  have h1 : x / 2 ^ (32 - k) ≤ x := Nat.div_le_self _ _
  rw [e]
  exact Nat.or_lt_two_pow (by rw [← e]; exact Nat.mod_lt _ (by decide)) (by rw [← e]; omega)
def rot (x k : Nat) : Nat := (x * 2 ^ k % 4294967296) ||| (x / 2 ^ (32 - k))
theorem rot_bit (x k i : Nat) (hx : x < 4294967296) (hk : k < 32) (hi : i < 32) : (rot x k).testBit i = x.testBit ((i + (32 - k)) % 32) := by
  have e : (4294967296 : Nat) = 2 ^ 32 := by decide
  unfold rot
  rw [Nat.testBit_or, e, Nat.testBit_mod_two_pow, Nat.testBit_mul_two_pow, Nat.testBit_div_two_pow]
  by_cases h : k ≤ i
  · have h1 : (i + (32 - k)) % 32 = i - k := by omega
    have h2 : x.testBit (i + (32 - k)) = false := Nat.testBit_lt_two_pow (Nat.lt_of_lt_of_le (by rw [e] at hx; exact hx) (Nat.pow_le_pow_right (by omega) (by omega)))
    rw [h1, h2]
    simp [h, hi]
  · have h1 : (i + (32 - k)) % 32 = i + (32 - k) := Nat.mod_eq_of_lt (by omega)
    rw [h1]
    simp [h]
theorem rot_lt (x k : Nat) (hx : x < 4294967296) (hk : k < 32) : rot x k < 4294967296 := rot_or x k hx hk

/-- the reference's list after j steps: bit i of x at place (i + k) mod 32. -/
def tl (x k j : Nat) (p : Nat) : Bool := decide (p < 32) && (decide ((p + (32 - k)) % 32 < j) && x.testBit ((p + (32 - k)) % 32))
theorem tl_start (x k : Nat) : row (fun _ => false) = row (tl x k 0) := row_congr _ _ fun i _ => by simp [tl]
theorem tl_step (x k j : Nat) (hk : k < 32) (hj : j < 32) : (row (tl x k j)).set ((j + k) % 32) (x.testBit j) = row (tl x k (j + 1)) := by
  have hm : ((j + k) % 32 + (32 - k)) % 32 = j := by omega
  refine row_set _ _ _ _ (by omega) ?_ fun i hne _ => ?_
  · unfold tl; rw [hm]; simp; omega
  · unfold tl
    by_cases h32 : i < 32
    · have hne2 : (i + (32 - k)) % 32 ≠ j := by omega
      have : ((i + (32 - k)) % 32 < j + 1) = ((i + (32 - k)) % 32 < j) := by rw [eq_iff_iff]; omega
      simp only [this]
    · simp [h32]
theorem tl_end (x k : Nat) (hx : x < 4294967296) (hk : k < 32) : ofBits (row (tl x k 32)) = rot x k := by
  have h := rot_lt x k hx hk
  refine ofBits_row _ _ (by omega) fun i hi => ?_
  unfold tl
  by_cases h32 : i < 32
  · rw [rot_bit x k i hx hk h32]
    have : (i + (32 - k)) % 32 < 32 := Nat.mod_lt _ (by decide)
    simp [h32, this]
  · have e : (4294967296 : Nat) = 2 ^ 32 := by decide
    have hz : (rot x k).testBit i = false := Nat.testBit_lt_two_pow (Nat.lt_of_lt_of_le (by rw [e] at h; exact h) (Nat.pow_le_pow_right (by omega) (by omega)))
    rw [hz]
    simp [h32]
theorem rot_rot (x k m : Nat) (hx : x < 4294967296) (hk : k < 32) (hm : m < 32) (hkm : (k + m) % 32 = 0) : rot (rot x k) m = x := by
  have e : (4294967296 : Nat) = 2 ^ 32 := by decide
  have h1 := rot_lt x k hx hk
  have h2 := rot_lt _ m h1 hm
  apply Nat.eq_of_testBit_eq
  intro i
  by_cases hi : i < 32
  · rw [rot_bit _ m i h1 hm hi, rot_bit x k _ hx hk (Nat.mod_lt _ (by decide))]
    congr 1
    omega
  · rw [Nat.testBit_lt_two_pow (Nat.lt_of_lt_of_le (by rw [e] at h2; exact h2) (Nat.pow_le_pow_right (by omega) (by omega))),
      Nat.testBit_lt_two_pow (Nat.lt_of_lt_of_le (by rw [e] at hx; exact hx) (Nat.pow_le_pow_right (by omega) (by omega)))]

/-! ### fields -/
def rangeOK (a n : Int) : Bool := decide (0 ≤ a ∧ 0 ≤ n ∧ a ≤ 64 ∧ n ≤ 64 - a)
def fieldOf (x a n : Nat) : Nat := x / 2 ^ a % 2 ^ n
theorem field_list (x a n : Nat) (h : a + n ≤ 64) : ((bitsOf x 64).drop a).take n = bitsOf (x / 2 ^ a) n := by
  apply List.ext_getElem?
  intro i
  rw [List.getElem?_take]
  by_cases hi : i < n
  · rw [if_pos hi, List.getElem?_drop, bitsOf_get _ _ _ (by omega), bitsOf_get _ _ _ hi, Nat.testBit_div_two_pow, Nat.add_comm]
  · rw [if_neg hi, List.getElem?_eq_none (by rw [bitsOf_length]; omega)]
theorem field_mask (x a n : Nat) : (x / 2 ^ a) &&& (2 ^ n - 1) = fieldOf x a n := Nat.and_two_pow_sub_one_eq_mod _ _
theorem fieldOf_le (x a n : Nat) : fieldOf x a n ≤ x := Nat.le_trans (Nat.mod_le _ _) (Nat.div_le_self _ _)

def putBit (x a n v i : Nat) : Bool := if a ≤ i ∧ i < a + n then v.testBit (i - a) else x.testBit i
def putOf (x a n v : Nat) : Nat := ofBits (row (putBit x a n v))
theorem put_start (x a v : Nat) : row x.testBit = row (putBit x a 0 v) := row_congr _ _ fun i _ => by unfold putBit; rw [if_neg (by omega)]
theorem put_step (x a n v : Nat) (h : a + n < 64) : (row (putBit x a n v)).set (a + n) (v.testBit n) = row (putBit x a (n + 1) v) := by
  refine row_set _ _ _ _ h ?_ fun i hne _ => ?_
  · unfold putBit; rw [if_pos (by omega)]; congr 1; omega
  · unfold putBit
    by_cases hc : a ≤ i ∧ i < a + n
    · rw [if_pos hc, if_pos (by omega)]
    · rw [if_neg hc, if_neg (by omega)]
theorem mask_lt (a n : Nat) (h : a + n ≤ 64) : (2 ^ n - 1) * 2 ^ a < 18446744073709551616 := by
  have h1 : 2 ^ n * 2 ^ a ≤ 18446744073709551616 := by rw [← Nat.pow_add, two64]; exact Nat.pow_le_pow_right (by omega) (by omega)
  have h2 : 0 < 2 ^ a := Nat.pow_pos (by omega)
  rw [Nat.sub_mul, Nat.one_mul]
  omega
theorem mask_bit (a n i : Nat) : ((2 ^ n - 1) * 2 ^ a).testBit i = decide (a ≤ i ∧ i < a + n) := by
  rw [Nat.testBit_mul_two_pow, Nat.testBit_two_pow_sub_one, ← Bool.decide_and]
  congr 1
  rw [eq_iff_iff]
  omega
theorem put_mask (x a n v : Nat) (hx : x < 18446744073709551616) (h : a + n ≤ 64) :
    (x &&& (18446744073709551615 - (2 ^ n - 1) * 2 ^ a)) ||| ((v * 2 ^ a % 18446744073709551616) &&& ((2 ^ n - 1) * 2 ^ a)) = putOf x a n v := by
  symm
  have hm := mask_lt a n h
  have e1 : 18446744073709551615 - (2 ^ n - 1) * 2 ^ a = 2 ^ 64 - ((2 ^ n - 1) * 2 ^ a + 1) := by rw [← two64]; omega
  rw [e1]
  refine ofBits_row _ _ ?_ fun i hi => ?_
  · rw [two64]
    exact Nat.or_lt_two_pow (Nat.and_lt_two_pow _ (by have := Nat.two_pow_pos 64; omega)) (Nat.and_lt_two_pow _ (by rw [← two64]; exact hm))
  · rw [Nat.testBit_or, Nat.testBit_and, Nat.testBit_and, Nat.testBit_two_pow_sub_succ (by rw [← two64]; exact hm), mask_bit, two64, Nat.testBit_mod_two_pow, Nat.testBit_mul_two_pow]
    unfold putBit
    by_cases hc : a ≤ i ∧ i < a + n
    · simp [hc, hi]
    · rw [if_neg hc]; simp [hc, hi]
theorem putOf_lt (x a n v : Nat) : putOf x a n v < 18446744073709551616 := ofBits_row_lt _

theorem replicate_row : List.replicate 64 (Value.bool false) = (row (fun _ => false)).map Value.bool := rfl
/-- the list of Move after k steps -/
def ml (x : Nat) (n : Int) (fill : Bool) (k : Nat) (i : Nat) : Bool := decide (i < k) && mv x n fill i
theorem ml_start (x : Nat) (n : Int) (fill : Bool) : row (fun _ => false) = row (ml x n fill 0) := row_congr _ _ fun i _ => by simp [ml]
theorem ml_step (x : Nat) (n : Int) (fill : Bool) (k : Nat) (b : Bool) (hk : k < 64) (hb : mv x n fill k = b) : (row (ml x n fill k)).set k b = row (ml x n fill (k + 1)) := by
  refine row_set _ _ _ _ hk ?_ fun i hne _ => ?_
  · unfold ml; simp [hb]
  · unfold ml
    have : (i < k + 1) = (i < k) := by rw [eq_iff_iff]; omega
    simp only [this]
theorem ml_end (x : Nat) (n : Int) (fill : Bool) : ofBits (row (ml x n fill 64)) = mvOf x n fill := by
  unfold mvOf
  rw [row_congr (ml x n fill 64) (mv x n fill) fun i hi => by simp [ml, hi]]

/-! ### ends and ranges -/
def el (W : Nat) (s : Bool) (k i : Nat) : Bool := decide (i < k) && (!s || decide (i < W - 1))
theorem el_start (W : Nat) (s : Bool) : row (fun _ => false) = row (el W s 0) := row_congr _ _ fun i _ => by simp [el]
theorem el_step (W : Nat) (s : Bool) (k : Nat) (hk : k < 64) : (row (el W s k)).set k (!s || decide (k < W - 1)) = row (el W s (k + 1)) := by
  refine row_set _ _ _ _ hk ?_ fun i hne _ => ?_
  · simp [el]
  · unfold el
    have : (i < k + 1) = (i < k) := by rw [eq_iff_iff]; omega
    simp only [this]
def mostOf (k : Int) : Nat := if widthOf k = 0 then 0 else 2 ^ (if signedOf k = true then widthOf k - 1 else widthOf k) - 1
def leastOf (k : Int) : Int := if widthOf k = 0 then 0 else if signedOf k = true then -(mostOf k : Int) - 1 else 0
theorem el_end (W : Nat) (s : Bool) (h1 : 1 ≤ W) (h2 : W ≤ 64) : ofBits (row (el W s W)) = 2 ^ (if s = true then W - 1 else W) - 1 := by
  refine ofBits_row _ _ ?_ fun i hi => ?_
  · have : 2 ^ (if s = true then W - 1 else W) ≤ 2 ^ 64 := Nat.pow_le_pow_right (by omega) (by split <;> omega)
    have h3 := Nat.two_pow_pos (if s = true then W - 1 else W)
    rw [two64]; omega
  · rw [Nat.testBit_two_pow_sub_one]
    unfold el
    cases s
    · simp
    · simp; omega
def fitsOf (k x : Int) : Bool := decide (widthOf k ≠ 0 ∧ leastOf k ≤ x ∧ (x < 0 ∨ x ≤ (mostOf k : Int)))
theorem ends_0 (k : Int) (h : widthOf k = 0) : mostOf k = 0 ∧ leastOf k = 0 ∧ ∀ x, fitsOf k x = false := by
  refine ⟨by simp [mostOf, h], by simp [leastOf, h], fun x => by simp [fitsOf, h]⟩

end Go.Proofs.YtlbbbafehhdpnaaGreatDoor
