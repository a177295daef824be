/- Plain arithmetic of bits: lists of bits and naturals. No program in sight. -/
import Derived.Laws.BitsAllLaws
import Derived.PlainAid
namespace Go.Proofs.YtlbbbafehhdpnaaGreatDoor
set_option linter.unusedVariables false
set_option linter.unusedSimpArgs false

def ofBits : List Bool → Nat
  | [] => 0
  | b :: l => (if b then 1 else 0) + 2 * ofBits l

theorem ofBits_lt (l : List Bool) : ofBits l < 2 ^ l.length := by
  induction l with
  | nil => simp [ofBits]
  | cons b l ih =>
    simp only [ofBits, List.length_cons, Nat.pow_succ]
    split <;> omega

theorem testBit_ofBits (l : List Bool) (i : Nat) : (ofBits l).testBit i = l[i]?.getD false := by
  induction l generalizing i with
  | nil => simp [ofBits]
  | cons b l ih =>
    simp only [ofBits]
    cases i with
    | zero =>
      rw [Nat.testBit_zero]
      cases b <;> simp <;> omega
    | succ i =>
      rw [Nat.testBit_succ]
      have : ((if b then 1 else 0) + 2 * ofBits l) / 2 = ofBits l := by split <;> omega
      rw [this, ih]
      simp

/-- The lowest n bits of x. -/
def bitsOf (x n : Nat) : List Bool := (List.range n).map x.testBit

theorem bitsOf_length (x n : Nat) : (bitsOf x n).length = n := by simp [bitsOf]

theorem bitsOf_get (x n i : Nat) (h : i < n) : (bitsOf x n)[i]? = some (x.testBit i) := by
  simp [bitsOf, h]

theorem bitsOf_succ (x n : Nat) : bitsOf x (n + 1) = bitsOf x n ++ [x.testBit n] := by
  simp [bitsOf, List.range_succ]

theorem testBit_div (x n : Nat) : (x / 2 ^ n % 2 == 1) = x.testBit n := by
  rw [Nat.testBit_eq_decide_div_mod_eq]
  by_cases h : x / 2 ^ n % 2 = 1 <;> simp [h]

theorem div_step (x n : Nat) : x / 2 ^ n / 2 = x / 2 ^ (n + 1) := by
  rw [Nat.div_div_eq_div_mul, Nat.pow_succ]

theorem ofBits_drop (l : List Bool) (k : Nat) (h : k < l.length) : ofBits (l.drop k) = (if l[k] then 1 else 0) + 2 * ofBits (l.drop (k + 1)) := by
  rw [List.drop_eq_getElem_cons h]
  rfl

/-- A number below 2^64 whose bits are those of a list of 64. -/
theorem ofBits_eq (l : List Bool) (x : Nat) (hx : x < 2 ^ l.length) (h : ∀ i, i < l.length → l[i]? = some (x.testBit i)) : ofBits l = x := by
  apply Nat.eq_of_testBit_eq
  intro i
  rw [testBit_ofBits]
  by_cases hi : i < l.length
  · rw [h i hi]; rfl
  · rw [List.getElem?_eq_none (by omega)]
    symm
    apply Nat.testBit_lt_two_pow
    exact Nat.lt_of_lt_of_le hx (Nat.pow_le_pow_right (by omega) (by omega))

theorem ofBits_bitsOf (x n : Nat) : ofBits (bitsOf x n) = x % 2 ^ n := by
  refine ofBits_eq _ _ (by rw [bitsOf_length]; exact Nat.mod_lt _ (Nat.pow_pos (by omega))) fun i hi => ?_
  rw [bitsOf_length] at hi
  rw [bitsOf_get _ _ _ hi, Nat.testBit_mod_two_pow]
  simp [hi]


/-! ### zigzag -/
def zig (x : Int) : Int := if 0 ≤ x then 2 * x else -2 * x - 1
def zag (u : Int) : Int := if u % 2 = 0 then u / 2 else -(u / 2) - 1
theorem zag_zig (x : Int) : zag (zig x) = x := by
  unfold zag zig
  split <;> split <;> omega
theorem zig_zag (u : Int) (h : 0 ≤ u) : zig (zag u) = u := by
  unfold zag zig
  split <;> split <;> omega
theorem zig_range (x : Int) (h1 : -9223372036854775808 ≤ x) (h2 : x ≤ 9223372036854775807) : 0 ≤ zig x ∧ zig x ≤ 18446744073709551615 := by
  unfold zig
  split <;> omega
theorem zag_range (u : Int) (h1 : 0 ≤ u) (h2 : u ≤ 18446744073709551615) : -9223372036854775808 ≤ zag u ∧ zag u ≤ 9223372036854775807 := by
  unfold zag
  split <;> omega

theorem xor_all (n a : Nat) (h : a < 2 ^ n) : a ^^^ (2 ^ n - 1) = 2 ^ n - 1 - a := by
  have h1 : 2 ^ n - 1 - a = 2 ^ n - (a + 1) := by omega
  rw [h1]
  apply Nat.eq_of_testBit_eq
  intro i
  rw [Nat.testBit_xor, Nat.testBit_two_pow_sub_one, Nat.testBit_two_pow_sub_succ h]
  by_cases hi : i < n
  · simp [hi]
  · simp [hi]
    exact Nat.testBit_lt_two_pow (Nat.lt_of_lt_of_le h (Nat.pow_le_pow_right (by omega) (by omega)))

theorem u64_xor_all (a : Int) (h1 : 0 ≤ a) (h2 : a ≤ 18446744073709551615) : bits .xor .u64 a 18446744073709551615 = 18446744073709551615 - a := by
  rw [u64_xor a _ h1 (by omega) (by omega) (by omega)]
  have e : (18446744073709551615 : Int).toNat = 2 ^ 64 - 1 := by decide
  have e2 : (2 : Nat) ^ 64 = 18446744073709551616 := by decide
  rw [e, xor_all 64 _ (by omega)]
  omega
theorem u64_xor_0 (a : Int) (h1 : 0 ≤ a) (h2 : a ≤ 18446744073709551615) : bits .xor .u64 a 0 = a := by
  rw [u64_xor a _ h1 (by omega) (by omega) (by omega)]
  simp
  omega
theorem i64_xor_0 (a : Int) (h1 : 0 ≤ a) (h2 : a ≤ 9223372036854775807) : bits .xor .i64 a 0 = a := by
  obtain ⟨A, rfl⟩ := Int.eq_ofNat_of_zero_le h1
  show IntKind.i64.wrap ((BitVec.ofInt 64 (A : Int) ^^^ BitVec.ofInt 64 (0 : Int)).toNat : Int) = _
  have e : BitVec.ofInt 64 (0 : Int) = 0#64 := by decide
  rw [e, BitVec.xor_zero, BitVec.ofInt_natCast, BitVec.toNat_ofNat, IntKind.wrap_i64]
  omega
theorem i64_xor_m1 (a : Int) (h1 : 0 ≤ a) (h2 : a ≤ 9223372036854775807) : bits .xor .i64 a (-1) = -1 - a := by
  obtain ⟨A, rfl⟩ := Int.eq_ofNat_of_zero_le h1
  show IntKind.i64.wrap ((BitVec.ofInt 64 (A : Int) ^^^ BitVec.ofInt 64 (-1 : Int)).toNat : Int) = _
  have e : BitVec.ofInt 64 (-1 : Int) = BitVec.allOnes 64 := by decide
  rw [e, BitVec.xor_allOnes, BitVec.toNat_not, BitVec.ofInt_natCast, BitVec.toNat_ofNat, IntKind.wrap_i64]
  omega
theorem u64_and_1 (a : Int) (h1 : 0 ≤ a) (h2 : a ≤ 18446744073709551615) : bits .and .u64 a 1 = a % 2 := by
  rw [u64_and a _ h1 (by omega) (by omega) (by omega)]
  have e : (1 : Int).toNat = 2 ^ 1 - 1 := by decide
  rw [e, Nat.and_two_pow_sub_one_eq_mod]
  omega
theorem i64_and_31 (n : Int) : bits .and .i64 n 31 = n % 32 := by
  show IntKind.i64.wrap ((BitVec.ofInt 64 n &&& BitVec.ofInt 64 (31 : Int)).toNat : Int) = _
  have e : (BitVec.ofInt 64 (31 : Int)).toNat = 2 ^ 5 - 1 := by decide
  rw [BitVec.toNat_and, e, Nat.and_two_pow_sub_one_eq_mod, BitVec.toNat_ofInt, IntKind.wrap_i64]
  omega

theorem zig_pos (x : Int) (h1 : 0 ≤ x) (h2 : x ≤ 9223372036854775807) :
    bits .xor .u64 (IntKind.u64.wrap (IntKind.u64.wrap x * 2)) (IntKind.u64.wrap (x / 9223372036854775808)) = zig x := by
  have a1 : IntKind.u64.wrap (IntKind.u64.wrap x * 2) = 2 * x := by rw [IntKind.wrap_u64, IntKind.wrap_u64]; omega
  have a2 : IntKind.u64.wrap (x / 9223372036854775808) = 0 := by rw [IntKind.wrap_u64]; omega
  rw [a1, a2, u64_xor_0 _ (by omega) (by omega)]
  unfold zig
  rw [if_pos h1]
theorem zig_neg (x : Int) (h1 : x < 0) (h2 : -9223372036854775808 ≤ x) :
    bits .xor .u64 (IntKind.u64.wrap (IntKind.u64.wrap x * 2)) (IntKind.u64.wrap (x / 9223372036854775808)) = zig x := by
  have a1 : IntKind.u64.wrap (IntKind.u64.wrap x * 2) = 2 * x + 18446744073709551616 := by rw [IntKind.wrap_u64, IntKind.wrap_u64]; omega
  have a2 : IntKind.u64.wrap (x / 9223372036854775808) = 18446744073709551615 := by rw [IntKind.wrap_u64]; omega
  rw [a1, a2, u64_xor_all _ (by omega) (by omega)]
  unfold zig
  rw [if_neg (by omega)]
  omega
theorem zig_bits (x : Int) (h1 : -9223372036854775808 ≤ x) (h2 : x ≤ 9223372036854775807) :
    bits .xor .u64 (IntKind.u64.wrap (IntKind.u64.wrap x * 2)) (IntKind.u64.wrap (x / 9223372036854775808)) = zig x := by
  by_cases h : 0 ≤ x
  · exact zig_pos x h h2
  · exact zig_neg x (by omega) h1
theorem zag_bits (x : Int) (h1 : 0 ≤ x) (h2 : x ≤ 18446744073709551615) :
    bits .xor .i64 (x / 2) (RowKit.wrap64 (-RowKit.wrap64 (bits .and .u64 x 1))) = zag x := by
  rw [u64_and_1 x h1 h2]
  unfold zag
  by_cases h : x % 2 = 0
  · rw [if_pos h, h]
    have e : RowKit.wrap64 (-RowKit.wrap64 0) = 0 := by unfold RowKit.wrap64; decide
    rw [e, i64_xor_0 _ (by omega) (by omega)]
  · have h' : x % 2 = 1 := by omega
    rw [if_neg h, h']
    have e : RowKit.wrap64 (-RowKit.wrap64 1) = -1 := by unfold RowKit.wrap64; decide
    rw [e, i64_xor_m1 _ (by omega) (by omega)]
    omega

end Go.Proofs.YtlbbbafehhdpnaaGreatDoor

namespace Go.Proofs.YtlbbbafehhdpnaaGreatDoor
set_option linter.unusedVariables false
set_option linter.unusedSimpArgs false

/-- 64 bits by a function. -/
def row (f : Nat → Bool) : List Bool := (List.range 64).map f
theorem row_length (f : Nat → Bool) : (row f).length = 64 := by simp [row]
theorem row_get (f : Nat → Bool) (i : Nat) (h : i < 64) : (row f)[i]? = some (f i) := by simp [row, h]
theorem row_get' (f : Nat → Bool) (i : Nat) (h : i < (row f).length) : (row f)[i] = f i := by simp [row]
theorem row_set (f g : Nat → Bool) (k : Nat) (b : Bool) (hk : k < 64) (h1 : g k = b) (h2 : ∀ i, i ≠ k → i < 64 → g i = f i) : (row f).set k b = row g := by
  apply List.ext_getElem?
  intro i
  rw [List.getElem?_set]
  by_cases hi : i < 64
  · rw [row_get f i hi, row_get g i hi, row_length]
    by_cases e : k = i
    · subst e; simp [hi, h1]
    · simp [e, h2 i (fun h => e h.symm) hi]
  · rw [List.getElem?_eq_none (by rw [row_length]; omega), List.getElem?_eq_none (by rw [row_length]; omega)]
    split <;> simp_all [row_length] <;> omega
theorem row_bitsOf (x : Nat) : bitsOf x 64 = row x.testBit := rfl
theorem row_congr (f g : Nat → Bool) (h : ∀ i, i < 64 → f i = g i) : row f = row g := by
  unfold row
  exact List.map_congr_left fun i hi => h i (by simpa using hi)
theorem ofBits_row (f : Nat → Bool) (x : Nat) (hx : x < 18446744073709551616) (h : ∀ i, i < 64 → f i = x.testBit i) : ofBits (row f) = x :=
  ofBits_eq _ _ (by rw [row_length]; exact hx) fun i hi => by rw [row_length] at hi; rw [row_get f i hi, h i hi]
theorem ofBits_row_lt (f : Nat → Bool) : ofBits (row f) < 18446744073709551616 := by
  have := ofBits_lt (row f)
  rw [row_length] at this
  exact this

/-! ### Wrap -/
def wl (x w : Nat) (s : Bool) (k : Nat) : Nat → Bool := fun i => if i < w ∨ k ≤ i then x.testBit i else (s && x.testBit (w - 1))
theorem wl_start (x w : Nat) (s : Bool) : row (wl x w s w) = row x.testBit :=
  row_congr _ _ fun i _ => by unfold wl; rw [if_pos (by omega)]
theorem wl_step (x w : Nat) (s : Bool) (k : Nat) (hw : w ≤ k) (hk : k < 64) : (row (wl x w s k)).set k (s && x.testBit (w - 1)) = row (wl x w s (k + 1)) := by
  refine row_set _ _ _ _ hk ?_ fun i hne _ => ?_
  · unfold wl; rw [if_neg (by omega)]
  · unfold wl
    by_cases h : i < w ∨ k ≤ i
    · rw [if_pos h, if_pos (by omega)]
    · rw [if_neg h, if_neg (by omega)]
theorem wl_last (x w : Nat) (s : Bool) (k : Nat) (hw : 1 ≤ w) (hk : w ≤ k) : wl x w s k (w - 1) = x.testBit (w - 1) := by
  unfold wl; rw [if_pos (by omega)]

/-- What comes out: the low bits, and the sign's. -/
theorem wl_value (x w : Nat) (s : Bool) (hw : w ≤ 64) (hx : x < 18446744073709551616) :
    ofBits (row (wl x w s 64)) = x % 2 ^ w + (if (s && x.testBit (w - 1)) = true then 2 ^ w * (2 ^ (64 - w) - 1) else 0) := by
  have hp : 2 ^ w * 2 ^ (64 - w) = 18446744073709551616 := by
    have e : w + (64 - w) = 64 := by omega
    rw [← Nat.pow_add, e]
  have hlt : x % 2 ^ w < 2 ^ w := Nat.mod_lt _ (Nat.pow_pos (by omega))
  have h64 : (18446744073709551616 : Nat) = 2 ^ 64 := by decide
  refine ofBits_row _ _ ?_ fun i hi => ?_
  · split
    · rw [Nat.mul_sub, hp]
      have : 2 ^ w ≤ 18446744073709551616 := by rw [h64]; exact Nat.pow_le_pow_right (by omega) hw
      omega
    · have : 2 ^ w ≤ 18446744073709551616 := by rw [h64]; exact Nat.pow_le_pow_right (by omega) hw
      omega
  · unfold wl
    by_cases h : i < w
    · rw [if_pos (by omega)]
      split
      · rw [Nat.add_comm, Nat.testBit_two_pow_mul_add _ hlt, if_pos h, Nat.testBit_mod_two_pow]; simp [h]
      · rw [Nat.add_zero, Nat.testBit_mod_two_pow]; simp [h]
    · rw [if_neg (by omega)]
      split
      · rename_i hs
        rw [hs, Nat.add_comm, Nat.testBit_two_pow_mul_add _ hlt, if_neg h, Nat.testBit_two_pow_sub_one]
        symm; simp; omega
      · rename_i hs
        rw [Nat.add_zero, Nat.testBit_mod_two_pow]
        simp [h]
        simpa using hs

theorem testBit_iff (x k : Nat) : x.testBit k = decide (x / 2 ^ k % 2 = 1) := Nat.testBit_eq_decide_div_mod_eq

/-- A kind's width and sign. -/
def widthOf (k : Int) : Nat := if k = 1 ∨ k = 5 then 8 else if k = 2 ∨ k = 6 then 16 else if k = 3 ∨ k = 7 then 32 else if k = 4 ∨ k = 8 then 64 else 0
def signedOf (k : Int) : Bool := decide (1 ≤ k ∧ k ≤ 4)
def wrapOf (k : Int) (x : Nat) : Nat := if widthOf k = 0 then 0 else ofBits (row (wl x (widthOf k) (signedOf k) 64))
theorem width_le (k : Int) : widthOf k ≤ 64 := by
  unfold widthOf
  repeat' split
  all_goals omega
theorem wrapOf_lt (k : Int) (x : Nat) : wrapOf k x < 18446744073709551616 := by
  unfold wrapOf
  split
  · decide
  · exact ofBits_row_lt _

section
variable (x : Nat) (hx : x < 18446744073709551616)
include hx
theorem wrap_1 : IntKind.u64.wrap (IntKind.i8.wrap (x : Int)) = (wrapOf 1 x : Nat) := by
  have e : wrapOf 1 x = ofBits (row (wl x 8 true 64)) := rfl
  rw [e, wl_value x 8 true (by omega) hx, testBit_iff]
  simp only [IntKind.wrap, IntKind.bits, IntKind.signed]
  simp
  split <;> split <;> omega
theorem wrap_2 : IntKind.u64.wrap (IntKind.i16.wrap (x : Int)) = (wrapOf 2 x : Nat) := by
  have e : wrapOf 2 x = ofBits (row (wl x 16 true 64)) := rfl
  rw [e, wl_value x 16 true (by omega) hx, testBit_iff]
  simp only [IntKind.wrap, IntKind.bits, IntKind.signed]
  simp
  split <;> split <;> omega
theorem wrap_3 : IntKind.u64.wrap (IntKind.i32.wrap (x : Int)) = (wrapOf 3 x : Nat) := by
  have e : wrapOf 3 x = ofBits (row (wl x 32 true 64)) := rfl
  rw [e, wl_value x 32 true (by omega) hx, testBit_iff]
  simp only [IntKind.wrap, IntKind.bits, IntKind.signed]
  simp
  split <;> split <;> omega
theorem wrap_4 : wrapOf 4 x = x := by
  have e : wrapOf 4 x = ofBits (row (wl x 64 true 64)) := rfl
  rw [e, wl_value x 64 true (by omega) hx]
  simp
  omega
theorem wrap_8 : wrapOf 8 x = x := by
  have e : wrapOf 8 x = ofBits (row (wl x 64 false 64)) := rfl
  rw [e, wl_value x 64 false (by omega) hx]
  simp
  omega
theorem wrap_5 : wrapOf 5 x = x % 256 := by
  have e : wrapOf 5 x = ofBits (row (wl x 8 false 64)) := rfl
  rw [e, wl_value x 8 false (by omega) hx]
  simp
theorem wrap_6 : wrapOf 6 x = x % 65536 := by
  have e : wrapOf 6 x = ofBits (row (wl x 16 false 64)) := rfl
  rw [e, wl_value x 16 false (by omega) hx]
  simp
theorem wrap_7 : wrapOf 7 x = x % 4294967296 := by
  have e : wrapOf 7 x = ofBits (row (wl x 32 false 64)) := rfl
  rw [e, wl_value x 32 false (by omega) hx]
  simp
end

theorem kinds (k : Int) : widthOf k = 0 ∨ k = 1 ∨ k = 2 ∨ k = 3 ∨ k = 4 ∨ k = 5 ∨ k = 6 ∨ k = 7 ∨ k = 8 := by
  unfold widthOf
  repeat' split
  all_goals omega
theorem width_0 (k : Int) (h : widthOf k = 0) : k ≠ 1 ∧ k ≠ 2 ∧ k ≠ 3 ∧ k ≠ 4 ∧ k ≠ 5 ∧ k ≠ 6 ∧ k ≠ 7 ∧ k ≠ 8 := by
  unfold widthOf at h
  repeat' split at h
  all_goals omega

theorem wl_again (x w : Nat) (s : Bool) (hw : 1 ≤ w) (hw2 : w ≤ 64) : row (wl (ofBits (row (wl x w s 64))) w s 64) = row (wl x w s 64) := by
  have hb : ∀ i, i < 64 → (ofBits (row (wl x w s 64))).testBit i = wl x w s 64 i := fun i hi => by rw [testBit_ofBits, row_get _ i hi]; rfl
  generalize ofBits (row (wl x w s 64)) = y at hb
  refine row_congr _ _ fun i hi => ?_
  unfold wl
  rw [hb i hi, hb (w - 1) (by omega)]
  unfold wl
  by_cases h : i < w
  · rw [if_pos (by omega), if_pos (by omega)]
  · rw [if_neg (by omega), if_pos (by omega), if_neg (by omega)]
theorem wrap_again (k : Int) (x : Nat) : wrapOf k (wrapOf k x) = wrapOf k x := by
  by_cases h : widthOf k = 0
  · simp [wrapOf, h]
  · have e : ∀ y, wrapOf k y = ofBits (row (wl y (widthOf k) (signedOf k) 64)) := fun y => by simp [wrapOf, h]
    rw [e (wrapOf k x), e x, wl_again _ _ _ (by omega) (width_le k)]

end Go.Proofs.YtlbbbafehhdpnaaGreatDoor
