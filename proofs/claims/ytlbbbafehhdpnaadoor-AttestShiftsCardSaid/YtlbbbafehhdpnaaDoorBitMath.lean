/- Plain arithmetic of bits: lists of bits and naturals. No program in sight. -/
import Derived.Laws.BitsAllLaws
import Derived.PlainAid
namespace Go.Proofs.YtlbbbafehhdpnaaDoor

def ofBits : List Bool → Nat
  | [] => 0
  | b :: l => (if b then 1 else 0) + 2 * ofBits l

theorem ofBits_lt (l : List Bool) : ofBits l < 2 ^ l.length := by
  induction l with
  | nil => simp [ofBits]
  | cons b l ih =>
    simp only [ofBits, List.length_cons, Nat.pow_succ]
    split <;> omega

theorem testBit_ofBits (l : List Bool) (i : Nat) : (ofBits l).testBit i = l[i]?.getD false := by
  induction l generalizing i with
  | nil => simp [ofBits]
  | cons b l ih =>
    simp only [ofBits]
    cases i with
    | zero =>
      rw [Nat.testBit_zero]
      cases b <;> simp <;> omega
    | succ i =>
      rw [Nat.testBit_succ]
      have : ((if b then 1 else 0) + 2 * ofBits l) / 2 = ofBits l := by split <;> omega
      rw [this, ih]
      simp

/-- The lowest n bits of x. -/
def bitsOf (x n : Nat) : List Bool := (List.range n).map x.testBit

theorem bitsOf_length (x n : Nat) : (bitsOf x n).length = n := by simp [bitsOf]

theorem bitsOf_get (x n i : Nat) (h : i < n) : (bitsOf x n)[i]? = some (x.testBit i) := by
  simp [bitsOf, h]

theorem bitsOf_succ (x n : Nat) : bitsOf x (n + 1) = bitsOf x n ++ [x.testBit n] := by
  simp [bitsOf, List.range_succ]

theorem testBit_div (x n : Nat) : (x / 2 ^ n % 2 == 1) = x.testBit n := by
  rw [Nat.testBit_eq_decide_div_mod_eq]
  by_cases h : x / 2 ^ n % 2 = 1 <;> simp [h]

theorem div_step (x n : Nat) : x / 2 ^ n / 2 = x / 2 ^ (n + 1) := by
  rw [Nat.div_div_eq_div_mul, Nat.pow_succ]

theorem ofBits_drop (l : List Bool) (k : Nat) (h : k < l.length) : ofBits (l.drop k) = (if l[k] then 1 else 0) + 2 * ofBits (l.drop (k + 1)) := by
  rw [List.drop_eq_getElem_cons h]
  rfl

/-- A number below 2^64 whose bits are those of a list of 64. -/
theorem ofBits_eq (l : List Bool) (x : Nat) (hx : x < 2 ^ l.length) (h : ∀ i, i < l.length → l[i]? = some (x.testBit i)) : ofBits l = x := by
  apply Nat.eq_of_testBit_eq
  intro i
  rw [testBit_ofBits]
  by_cases hi : i < l.length
  · rw [h i hi]; rfl
  · rw [List.getElem?_eq_none (by omega)]
    symm
    apply Nat.testBit_lt_two_pow
    exact Nat.lt_of_lt_of_le hx (Nat.pow_le_pow_right (by omega) (by omega))

theorem ofBits_bitsOf (x n : Nat) : ofBits (bitsOf x n) = x % 2 ^ n := by
  refine ofBits_eq _ _ (by rw [bitsOf_length]; exact Nat.mod_lt _ (Nat.pow_pos (by omega))) fun i hi => ?_
  rw [bitsOf_length] at hi
  rw [bitsOf_get _ _ _ hi, Nat.testBit_mod_two_pow]
  simp [hi]


/-! ### zigzag -/
def zig (x : Int) : Int := if 0 ≤ x then 2 * x else -2 * x - 1
def zag (u : Int) : Int := if u % 2 = 0 then u / 2 else -(u / 2) - 1
theorem zag_zig (x : Int) : zag (zig x) = x := by
  unfold zag zig
  split <;> split <;> omega
theorem zig_zag (u : Int) (h : 0 ≤ u) : zig (zag u) = u := by
  unfold zag zig
  split <;> split <;> omega
theorem zig_range (x : Int) (h1 : -9223372036854775808 ≤ x) (h2 : x ≤ 9223372036854775807) : 0 ≤ zig x ∧ zig x ≤ 18446744073709551615 := by
  unfold zig
  split <;> omega
theorem zag_range (u : Int) (h1 : 0 ≤ u) (h2 : u ≤ 18446744073709551615) : -9223372036854775808 ≤ zag u ∧ zag u ≤ 9223372036854775807 := by
  unfold zag
  split <;> omega

theorem xor_all (n a : Nat) (h : a < 2 ^ n) : a ^^^ (2 ^ n - 1) = 2 ^ n - 1 - a := by
  have h1 : 2 ^ n - 1 - a = 2 ^ n - (a + 1) := by omega
  rw [h1]
  apply Nat.eq_of_testBit_eq
  intro i
  rw [Nat.testBit_xor, Nat.testBit_two_pow_sub_one, Nat.testBit_two_pow_sub_succ h]
  by_cases hi : i < n
  · simp [hi]
  · simp [hi]
    exact Nat.testBit_lt_two_pow (Nat.lt_of_lt_of_le h (Nat.pow_le_pow_right (by omega) (by omega)))

theorem u64_xor_all (a : Int) (h1 : 0 ≤ a) (h2 : a ≤ 18446744073709551615) : bits .xor .u64 a 18446744073709551615 = 18446744073709551615 - a := by
  rw [u64_xor a _ h1 (by omega) (by omega) (by omega)]
  have e : (18446744073709551615 : Int).toNat = 2 ^ 64 - 1 := by decide
  have e2 : (2 : Nat) ^ 64 = 18446744073709551616 := by decide
  rw [e, xor_all 64 _ (by omega)]
  omega
theorem u64_xor_0 (a : Int) (h1 : 0 ≤ a) (h2 : a ≤ 18446744073709551615) : bits .xor .u64 a 0 = a := by
  rw [u64_xor a _ h1 (by omega) (by omega) (by omega)]
  simp
  omega
theorem i64_xor_0 (a : Int) (h1 : 0 ≤ a) (h2 : a ≤ 9223372036854775807) : bits .xor .i64 a 0 = a := by
  obtain ⟨A, rfl⟩ := Int.eq_ofNat_of_zero_le h1
  show IntKind.i64.wrap ((BitVec.ofInt 64 (A : Int) ^^^ BitVec.ofInt 64 (0 : Int)).toNat : Int) = _
  have e : BitVec.ofInt 64 (0 : Int) = 0#64 := by decide
  rw [e, BitVec.xor_zero, BitVec.ofInt_natCast, BitVec.toNat_ofNat, IntKind.wrap_i64]
  omega
theorem i64_xor_m1 (a : Int) (h1 : 0 ≤ a) (h2 : a ≤ 9223372036854775807) : bits .xor .i64 a (-1) = -1 - a := by
  obtain ⟨A, rfl⟩ := Int.eq_ofNat_of_zero_le h1
  show IntKind.i64.wrap ((BitVec.ofInt 64 (A : Int) ^^^ BitVec.ofInt 64 (-1 : Int)).toNat : Int) = _
  have e : BitVec.ofInt 64 (-1 : Int) = BitVec.allOnes 64 := by decide
  rw [e, BitVec.xor_allOnes, BitVec.toNat_not, BitVec.ofInt_natCast, BitVec.toNat_ofNat, IntKind.wrap_i64]
  omega
theorem u64_and_1 (a : Int) (h1 : 0 ≤ a) (h2 : a ≤ 18446744073709551615) : bits .and .u64 a 1 = a % 2 := by
  rw [u64_and a _ h1 (by omega) (by omega) (by omega)]
  have e : (1 : Int).toNat = 2 ^ 1 - 1 := by decide
  rw [e, Nat.and_two_pow_sub_one_eq_mod]
  omega
theorem i64_and_31 (n : Int) : bits .and .i64 n 31 = n % 32 := by
  show IntKind.i64.wrap ((BitVec.ofInt 64 n &&& BitVec.ofInt 64 (31 : Int)).toNat : Int) = _
  have e : (BitVec.ofInt 64 (31 : Int)).toNat = 2 ^ 5 - 1 := by decide
  rw [BitVec.toNat_and, e, Nat.and_two_pow_sub_one_eq_mod, BitVec.toNat_ofInt, IntKind.wrap_i64]
  omega

theorem zig_pos (x : Int) (h1 : 0 ≤ x) (h2 : x ≤ 9223372036854775807) :
    bits .xor .u64 (IntKind.u64.wrap (IntKind.u64.wrap x * 2)) (IntKind.u64.wrap (x / 9223372036854775808)) = zig x := by
  have a1 : IntKind.u64.wrap (IntKind.u64.wrap x * 2) = 2 * x := by rw [IntKind.wrap_u64, IntKind.wrap_u64]; omega
  have a2 : IntKind.u64.wrap (x / 9223372036854775808) = 0 := by rw [IntKind.wrap_u64]; omega
  rw [a1, a2, u64_xor_0 _ (by omega) (by omega)]
  unfold zig
  rw [if_pos h1]
theorem zig_neg (x : Int) (h1 : x < 0) (h2 : -9223372036854775808 ≤ x) :
    bits .xor .u64 (IntKind.u64.wrap (IntKind.u64.wrap x * 2)) (IntKind.u64.wrap (x / 9223372036854775808)) = zig x := by
  have a1 : IntKind.u64.wrap (IntKind.u64.wrap x * 2) = 2 * x + 18446744073709551616 := by rw [IntKind.wrap_u64, IntKind.wrap_u64]; omega
  have a2 : IntKind.u64.wrap (x / 9223372036854775808) = 18446744073709551615 := by rw [IntKind.wrap_u64]; omega
  rw [a1, a2, u64_xor_all _ (by omega) (by omega)]
  unfold zig
  rw [if_neg (by omega)]
  omega
theorem zig_bits (x : Int) (h1 : -9223372036854775808 ≤ x) (h2 : x ≤ 9223372036854775807) :
    bits .xor .u64 (IntKind.u64.wrap (IntKind.u64.wrap x * 2)) (IntKind.u64.wrap (x / 9223372036854775808)) = zig x := by
  by_cases h : 0 ≤ x
  · exact zig_pos x h h2
  · exact zig_neg x (by omega) h1
theorem zag_bits (x : Int) (h1 : 0 ≤ x) (h2 : x ≤ 18446744073709551615) :
    bits .xor .i64 (x / 2) (RowKit.wrap64 (-RowKit.wrap64 (bits .and .u64 x 1))) = zag x := by
  rw [u64_and_1 x h1 h2]
  unfold zag
  by_cases h : x % 2 = 0
  · rw [if_pos h, h]
    have e : RowKit.wrap64 (-RowKit.wrap64 0) = 0 := by unfold RowKit.wrap64; decide
    rw [e, i64_xor_0 _ (by omega) (by omega)]
  · have h' : x % 2 = 1 := by omega
    rw [if_neg h, h']
    have e : RowKit.wrap64 (-RowKit.wrap64 1) = -1 := by unfold RowKit.wrap64; decide
    rw [e, i64_xor_m1 _ (by omega) (by omega)]
    omega

end Go.Proofs.YtlbbbafehhdpnaaDoor
