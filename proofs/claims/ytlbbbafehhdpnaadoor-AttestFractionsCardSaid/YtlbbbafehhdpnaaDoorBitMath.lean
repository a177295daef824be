/- Plain arithmetic of bits: lists of bits and naturals. No program in sight. -/
import Derived.Laws.BitsAllLaws
import Derived.PlainAid
import Derived.Laws.Bits128
namespace Go.Proofs.YtlbbbafehhdpnaaDoor

def ofBits : List Bool → Nat
  | [] => 0
  | b :: l => (if b then 1 else 0) + 2 * ofBits l

theorem ofBits_lt (l : List Bool) : ofBits l < 2 ^ l.length := by
  induction l with
  | nil => simp [ofBits]
  | cons b l ih =>
    simp only [ofBits, List.length_cons, Nat.pow_succ]
    split <;> omega

theorem testBit_ofBits (l : List Bool) (i : Nat) : (ofBits l).testBit i = l[i]?.getD false := by
  induction l generalizing i with
  | nil => simp [ofBits]
  | cons b l ih =>
    simp only [ofBits]
    cases i with
    | zero =>
      rw [Nat.testBit_zero]
      cases b <;> simp <;> omega
    | succ i =>
      rw [Nat.testBit_succ]
      have : ((if b then 1 else 0) + 2 * ofBits l) / 2 = ofBits l := by split <;> omega
      rw [this, ih]
      simp

/-- The lowest n bits of x. -/
def bitsOf (x n : Nat) : List Bool := (List.range n).map x.testBit

theorem bitsOf_length (x n : Nat) : (bitsOf x n).length = n := by simp [bitsOf]

theorem bitsOf_get (x n i : Nat) (h : i < n) : (bitsOf x n)[i]? = some (x.testBit i) := by
  simp [bitsOf, h]

theorem bitsOf_succ (x n : Nat) : bitsOf x (n + 1) = bitsOf x n ++ [x.testBit n] := by
  simp [bitsOf, List.range_succ]

theorem testBit_div (x n : Nat) : (x / 2 ^ n % 2 == 1) = x.testBit n := by
  rw [Nat.testBit_eq_decide_div_mod_eq]
  by_cases h : x / 2 ^ n % 2 = 1 <;> simp [h]

theorem div_step (x n : Nat) : x / 2 ^ n / 2 = x / 2 ^ (n + 1) := by
  rw [Nat.div_div_eq_div_mul, Nat.pow_succ]

theorem ofBits_drop (l : List Bool) (k : Nat) (h : k < l.length) : ofBits (l.drop k) = (if l[k] then 1 else 0) + 2 * ofBits (l.drop (k + 1)) := by
  rw [List.drop_eq_getElem_cons h]
  rfl

/-- A number below 2^64 whose bits are those of a list of 64. -/
theorem ofBits_eq (l : List Bool) (x : Nat) (hx : x < 2 ^ l.length) (h : ∀ i, i < l.length → l[i]? = some (x.testBit i)) : ofBits l = x := by
  apply Nat.eq_of_testBit_eq
  intro i
  rw [testBit_ofBits]
  by_cases hi : i < l.length
  · rw [h i hi]; rfl
  · rw [List.getElem?_eq_none (by omega)]
    symm
    apply Nat.testBit_lt_two_pow
    exact Nat.lt_of_lt_of_le hx (Nat.pow_le_pow_right (by omega) (by omega))

theorem ofBits_bitsOf (x n : Nat) : ofBits (bitsOf x n) = x % 2 ^ n := by
  refine ofBits_eq _ _ (by rw [bitsOf_length]; exact Nat.mod_lt _ (Nat.pow_pos (by omega))) fun i hi => ?_
  rw [bitsOf_length] at hi
  rw [bitsOf_get _ _ _ hi, Nat.testBit_mod_two_pow]
  simp [hi]


/-! ### zigzag -/
def zig (x : Int) : Int := if 0 ≤ x then 2 * x else -2 * x - 1
def zag (u : Int) : Int := if u % 2 = 0 then u / 2 else -(u / 2) - 1
theorem zag_zig (x : Int) : zag (zig x) = x := by
  unfold zag zig
  split <;> split <;> omega
theorem zig_zag (u : Int) (h : 0 ≤ u) : zig (zag u) = u := by
  unfold zag zig
  split <;> split <;> omega
theorem zig_range (x : Int) (h1 : -9223372036854775808 ≤ x) (h2 : x ≤ 9223372036854775807) : 0 ≤ zig x ∧ zig x ≤ 18446744073709551615 := by
  unfold zig
  split <;> omega
theorem zag_range (u : Int) (h1 : 0 ≤ u) (h2 : u ≤ 18446744073709551615) : -9223372036854775808 ≤ zag u ∧ zag u ≤ 9223372036854775807 := by
  unfold zag
  split <;> omega

theorem xor_all (n a : Nat) (h : a < 2 ^ n) : a ^^^ (2 ^ n - 1) = 2 ^ n - 1 - a := by
  have h1 : 2 ^ n - 1 - a = 2 ^ n - (a + 1) := by omega
  rw [h1]
  apply Nat.eq_of_testBit_eq
  intro i
  rw [Nat.testBit_xor, Nat.testBit_two_pow_sub_one, Nat.testBit_two_pow_sub_succ h]
  by_cases hi : i < n
  · simp [hi]
  · simp [hi]
    exact Nat.testBit_lt_two_pow (Nat.lt_of_lt_of_le h (Nat.pow_le_pow_right (by omega) (by omega)))

theorem u64_xor_all (a : Int) (h1 : 0 ≤ a) (h2 : a ≤ 18446744073709551615) : bits .xor .u64 a 18446744073709551615 = 18446744073709551615 - a := by
  rw [u64_xor a _ h1 (by omega) (by omega) (by omega)]
  have e : (18446744073709551615 : Int).toNat = 2 ^ 64 - 1 := by decide
  have e2 : (2 : Nat) ^ 64 = 18446744073709551616 := by decide
  rw [e, xor_all 64 _ (by omega)]
  omega
theorem u64_xor_0 (a : Int) (h1 : 0 ≤ a) (h2 : a ≤ 18446744073709551615) : bits .xor .u64 a 0 = a := by
  rw [u64_xor a _ h1 (by omega) (by omega) (by omega)]
  simp
  omega
theorem i64_xor_0 (a : Int) (h1 : 0 ≤ a) (h2 : a ≤ 9223372036854775807) : bits .xor .i64 a 0 = a := by
  obtain ⟨A, rfl⟩ := Int.eq_ofNat_of_zero_le h1
  show IntKind.i64.wrap ((BitVec.ofInt 64 (A : Int) ^^^ BitVec.ofInt 64 (0 : Int)).toNat : Int) = _
  have e : BitVec.ofInt 64 (0 : Int) = 0#64 := by decide
  rw [e, BitVec.xor_zero, BitVec.ofInt_natCast, BitVec.toNat_ofNat, IntKind.wrap_i64]
  omega
theorem i64_xor_m1 (a : Int) (h1 : 0 ≤ a) (h2 : a ≤ 9223372036854775807) : bits .xor .i64 a (-1) = -1 - a := by
  obtain ⟨A, rfl⟩ := Int.eq_ofNat_of_zero_le h1
  show IntKind.i64.wrap ((BitVec.ofInt 64 (A : Int) ^^^ BitVec.ofInt 64 (-1 : Int)).toNat : Int) = _
  have e : BitVec.ofInt 64 (-1 : Int) = BitVec.allOnes 64 := by decide
  rw [e, BitVec.xor_allOnes, BitVec.toNat_not, BitVec.ofInt_natCast, BitVec.toNat_ofNat, IntKind.wrap_i64]
  omega
theorem u64_and_1 (a : Int) (h1 : 0 ≤ a) (h2 : a ≤ 18446744073709551615) : bits .and .u64 a 1 = a % 2 := by
  rw [u64_and a _ h1 (by omega) (by omega) (by omega)]
  have e : (1 : Int).toNat = 2 ^ 1 - 1 := by decide
  rw [e, Nat.and_two_pow_sub_one_eq_mod]
  omega
theorem i64_and_31 (n : Int) : bits .and .i64 n 31 = n % 32 := by
  show IntKind.i64.wrap ((BitVec.ofInt 64 n &&& BitVec.ofInt 64 (31 : Int)).toNat : Int) = _
  have e : (BitVec.ofInt 64 (31 : Int)).toNat = 2 ^ 5 - 1 := by decide
  rw [BitVec.toNat_and, e, Nat.and_two_pow_sub_one_eq_mod, BitVec.toNat_ofInt, IntKind.wrap_i64]
  omega

theorem zig_pos (x : Int) (h1 : 0 ≤ x) (h2 : x ≤ 9223372036854775807) :
    bits .xor .u64 (IntKind.u64.wrap (IntKind.u64.wrap x * 2)) (IntKind.u64.wrap (x / 9223372036854775808)) = zig x := by
  have a1 : IntKind.u64.wrap (IntKind.u64.wrap x * 2) = 2 * x := by rw [IntKind.wrap_u64, IntKind.wrap_u64]; omega
  have a2 : IntKind.u64.wrap (x / 9223372036854775808) = 0 := by rw [IntKind.wrap_u64]; omega
  rw [a1, a2, u64_xor_0 _ (by omega) (by omega)]
  unfold zig
  rw [if_pos h1]
theorem zig_neg (x : Int) (h1 : x < 0) (h2 : -9223372036854775808 ≤ x) :
    bits .xor .u64 (IntKind.u64.wrap (IntKind.u64.wrap x * 2)) (IntKind.u64.wrap (x / 9223372036854775808)) = zig x := by
  have a1 : IntKind.u64.wrap (IntKind.u64.wrap x * 2) = 2 * x + 18446744073709551616 := by rw [IntKind.wrap_u64, IntKind.wrap_u64]; omega
  have a2 : IntKind.u64.wrap (x / 9223372036854775808) = 18446744073709551615 := by rw [IntKind.wrap_u64]; omega
  rw [a1, a2, u64_xor_all _ (by omega) (by omega)]
  unfold zig
  rw [if_neg (by omega)]
  omega
theorem zig_bits (x : Int) (h1 : -9223372036854775808 ≤ x) (h2 : x ≤ 9223372036854775807) :
    bits .xor .u64 (IntKind.u64.wrap (IntKind.u64.wrap x * 2)) (IntKind.u64.wrap (x / 9223372036854775808)) = zig x := by
  by_cases h : 0 ≤ x
  · exact zig_pos x h h2
  · exact zig_neg x (by omega) h1
theorem zag_bits (x : Int) (h1 : 0 ≤ x) (h2 : x ≤ 18446744073709551615) :
    bits .xor .i64 (x / 2) (RowKit.wrap64 (-RowKit.wrap64 (bits .and .u64 x 1))) = zag x := by
  rw [u64_and_1 x h1 h2]
  unfold zag
  by_cases h : x % 2 = 0
  · rw [if_pos h, h]
    have e : RowKit.wrap64 (-RowKit.wrap64 0) = 0 := by unfold RowKit.wrap64; decide
    rw [e, i64_xor_0 _ (by omega) (by omega)]
  · have h' : x % 2 = 1 := by omega
    rw [if_neg h, h']
    have e : RowKit.wrap64 (-RowKit.wrap64 1) = -1 := by unfold RowKit.wrap64; decide
    rw [e, i64_xor_m1 _ (by omega) (by omega)]
    omega

end Go.Proofs.YtlbbbafehhdpnaaDoor

namespace Go.Proofs.YtlbbbafehhdpnaaDoor

/-- 64 bits by a function. -/
def row (f : Nat → Bool) : List Bool := (List.range 64).map f
theorem row_length (f : Nat → Bool) : (row f).length = 64 := by simp [row]
theorem row_get (f : Nat → Bool) (i : Nat) (h : i < 64) : (row f)[i]? = some (f i) := by simp [row, h]
theorem row_get' (f : Nat → Bool) (i : Nat) (h : i < (row f).length) : (row f)[i] = f i := by simp [row]
theorem row_set (f g : Nat → Bool) (k : Nat) (b : Bool) (hk : k < 64) (h1 : g k = b) (h2 : ∀ i, i ≠ k → i < 64 → g i = f i) : (row f).set k b = row g := by
  apply List.ext_getElem?
  intro i
  rw [List.getElem?_set]
  by_cases hi : i < 64
  · rw [row_get f i hi, row_get g i hi, row_length]
    by_cases e : k = i
    · subst e; simp [hi, h1]
    · simp [e, h2 i (fun h => e h.symm) hi]
  · rw [List.getElem?_eq_none (by rw [row_length]; omega), List.getElem?_eq_none (by rw [row_length]; omega)]
    split <;> simp_all [row_length] <;> omega
theorem row_bitsOf (x : Nat) : bitsOf x 64 = row x.testBit := rfl
theorem row_congr (f g : Nat → Bool) (h : ∀ i, i < 64 → f i = g i) : row f = row g := by
  unfold row
  exact List.map_congr_left fun i hi => h i (by simpa using hi)
theorem ofBits_row (f : Nat → Bool) (x : Nat) (hx : x < 18446744073709551616) (h : ∀ i, i < 64 → f i = x.testBit i) : ofBits (row f) = x :=
  ofBits_eq _ _ (by rw [row_length]; exact hx) fun i hi => by rw [row_length] at hi; rw [row_get f i hi, h i hi]
theorem ofBits_row_lt (f : Nat → Bool) : ofBits (row f) < 18446744073709551616 := by
  have := ofBits_lt (row f)
  rw [row_length] at this
  exact this

/-! ### Wrap -/
def wl (x w : Nat) (s : Bool) (k : Nat) : Nat → Bool := fun i => if i < w ∨ k ≤ i then x.testBit i else (s && x.testBit (w - 1))
theorem wl_start (x w : Nat) (s : Bool) : row (wl x w s w) = row x.testBit :=
  row_congr _ _ fun i _ => by unfold wl; rw [if_pos (by omega)]
theorem wl_step (x w : Nat) (s : Bool) (k : Nat) (hw : w ≤ k) (hk : k < 64) : (row (wl x w s k)).set k (s && x.testBit (w - 1)) = row (wl x w s (k + 1)) := by
  refine row_set _ _ _ _ hk ?_ fun i hne _ => ?_
  · unfold wl; rw [if_neg (by omega)]
  · unfold wl
    by_cases h : i < w ∨ k ≤ i
    · rw [if_pos h, if_pos (by omega)]
    · rw [if_neg h, if_neg (by omega)]
theorem wl_last (x w : Nat) (s : Bool) (k : Nat) (hw : 1 ≤ w) (hk : w ≤ k) : wl x w s k (w - 1) = x.testBit (w - 1) := by
  unfold wl; rw [if_pos (by omega)]

/-- What comes out: the low bits, and the sign's. -/
theorem wl_value (x w : Nat) (s : Bool) (hw : w ≤ 64) (hx : x < 18446744073709551616) :
    ofBits (row (wl x w s 64)) = x % 2 ^ w + (if (s && x.testBit (w - 1)) = true then 2 ^ w * (2 ^ (64 - w) - 1) else 0) := by
  have hp : 2 ^ w * 2 ^ (64 - w) = 18446744073709551616 := by
    have e : w + (64 - w) = 64 := by omega
    rw [← Nat.pow_add, e]
  have hlt : x % 2 ^ w < 2 ^ w := Nat.mod_lt _ (Nat.pow_pos (by omega))
  have h64 : (18446744073709551616 : Nat) = 2 ^ 64 := by decide
  refine ofBits_row _ _ ?_ fun i hi => ?_
  · split
    · rw [Nat.mul_sub, hp]
      have : 2 ^ w ≤ 18446744073709551616 := by rw [h64]; exact Nat.pow_le_pow_right (by omega) hw
      omega
    · have : 2 ^ w ≤ 18446744073709551616 := by rw [h64]; exact Nat.pow_le_pow_right (by omega) hw
      omega
  · unfold wl
    by_cases h : i < w
    · rw [if_pos (by omega)]
      split
      · rw [Nat.add_comm, Nat.testBit_two_pow_mul_add _ hlt, if_pos h, Nat.testBit_mod_two_pow]; simp [h]
      · rw [Nat.add_zero, Nat.testBit_mod_two_pow]; simp [h]
    · rw [if_neg (by omega)]
      split
      · rename_i hs
        rw [hs, Nat.add_comm, Nat.testBit_two_pow_mul_add _ hlt, if_neg h, Nat.testBit_two_pow_sub_one]
        symm; simp; omega
      · rename_i hs
        rw [Nat.add_zero, Nat.testBit_mod_two_pow]
        simp [h]
        simpa using hs

theorem testBit_iff (x k : Nat) : x.testBit k = decide (x / 2 ^ k % 2 = 1) := Nat.testBit_eq_decide_div_mod_eq

/-- A kind's width and sign. -/
def widthOf (k : Int) : Nat := if k = 1 ∨ k = 5 then 8 else if k = 2 ∨ k = 6 then 16 else if k = 3 ∨ k = 7 then 32 else if k = 4 ∨ k = 8 then 64 else 0
def signedOf (k : Int) : Bool := decide (1 ≤ k ∧ k ≤ 4)
def wrapOf (k : Int) (x : Nat) : Nat := if widthOf k = 0 then 0 else ofBits (row (wl x (widthOf k) (signedOf k) 64))
theorem width_le (k : Int) : widthOf k ≤ 64 := by
  unfold widthOf
  repeat' split
  all_goals omega
theorem wrapOf_lt (k : Int) (x : Nat) : wrapOf k x < 18446744073709551616 := by
  unfold wrapOf
  split
  · decide
  · exact ofBits_row_lt _

section
variable (x : Nat) (hx : x < 18446744073709551616)
include hx
theorem wrap_1 : IntKind.u64.wrap (IntKind.i8.wrap (x : Int)) = (wrapOf 1 x : Nat) := by
  have e : wrapOf 1 x = ofBits (row (wl x 8 true 64)) := rfl
  rw [e, wl_value x 8 true (by omega) hx, testBit_iff]
  simp only [IntKind.wrap, IntKind.bits, IntKind.signed]
  simp
  split <;> split <;> omega
theorem wrap_2 : IntKind.u64.wrap (IntKind.i16.wrap (x : Int)) = (wrapOf 2 x : Nat) := by
  have e : wrapOf 2 x = ofBits (row (wl x 16 true 64)) := rfl
  rw [e, wl_value x 16 true (by omega) hx, testBit_iff]
  simp only [IntKind.wrap, IntKind.bits, IntKind.signed]
  simp
  split <;> split <;> omega
theorem wrap_3 : IntKind.u64.wrap (IntKind.i32.wrap (x : Int)) = (wrapOf 3 x : Nat) := by
  have e : wrapOf 3 x = ofBits (row (wl x 32 true 64)) := rfl
  rw [e, wl_value x 32 true (by omega) hx, testBit_iff]
  simp only [IntKind.wrap, IntKind.bits, IntKind.signed]
  simp
  split <;> split <;> omega
theorem wrap_4 : wrapOf 4 x = x := by
  have e : wrapOf 4 x = ofBits (row (wl x 64 true 64)) := rfl
  rw [e, wl_value x 64 true (by omega) hx]
  simp
  omega
theorem wrap_8 : wrapOf 8 x = x := by
  have e : wrapOf 8 x = ofBits (row (wl x 64 false 64)) := rfl
  rw [e, wl_value x 64 false (by omega) hx]
  simp
  omega
theorem wrap_5 : wrapOf 5 x = x % 256 := by
  have e : wrapOf 5 x = ofBits (row (wl x 8 false 64)) := rfl
  rw [e, wl_value x 8 false (by omega) hx]
  simp
theorem wrap_6 : wrapOf 6 x = x % 65536 := by
  have e : wrapOf 6 x = ofBits (row (wl x 16 false 64)) := rfl
  rw [e, wl_value x 16 false (by omega) hx]
  simp
theorem wrap_7 : wrapOf 7 x = x % 4294967296 := by
  have e : wrapOf 7 x = ofBits (row (wl x 32 false 64)) := rfl
  rw [e, wl_value x 32 false (by omega) hx]
  simp
end

theorem kinds (k : Int) : widthOf k = 0 ∨ k = 1 ∨ k = 2 ∨ k = 3 ∨ k = 4 ∨ k = 5 ∨ k = 6 ∨ k = 7 ∨ k = 8 := by
  unfold widthOf
  repeat' split
  all_goals omega
theorem width_0 (k : Int) (h : widthOf k = 0) : k ≠ 1 ∧ k ≠ 2 ∧ k ≠ 3 ∧ k ≠ 4 ∧ k ≠ 5 ∧ k ≠ 6 ∧ k ≠ 7 ∧ k ≠ 8 := by
  unfold widthOf at h
  repeat' split at h
  all_goals omega

theorem wl_again (x w : Nat) (s : Bool) (hw : 1 ≤ w) (hw2 : w ≤ 64) : row (wl (ofBits (row (wl x w s 64))) w s 64) = row (wl x w s 64) := by
  have hb : ∀ i, i < 64 → (ofBits (row (wl x w s 64))).testBit i = wl x w s 64 i := fun i hi => by rw [testBit_ofBits, row_get _ i hi]; rfl
  generalize ofBits (row (wl x w s 64)) = y at hb
  refine row_congr _ _ fun i hi => ?_
  unfold wl
  rw [hb i hi, hb (w - 1) (by omega)]
  unfold wl
  by_cases h : i < w
  · rw [if_pos (by omega), if_pos (by omega)]
  · rw [if_neg (by omega), if_pos (by omega), if_neg (by omega)]
theorem wrap_again (k : Int) (x : Nat) : wrapOf k (wrapOf k x) = wrapOf k x := by
  by_cases h : widthOf k = 0
  · simp [wrapOf, h]
  · have e : ∀ y, wrapOf k y = ofBits (row (wl y (widthOf k) (signedOf k) 64)) := fun y => by simp [wrapOf, h]
    rw [e (wrapOf k x), e x, wl_again _ _ _ (by omega) (width_le k)]

end Go.Proofs.YtlbbbafehhdpnaaDoor

namespace Go.Proofs.YtlbbbafehhdpnaaDoor

/-! ### shifts -/
def mv (x : Nat) (n : Int) (fill : Bool) (i : Nat) : Bool :=
  if 64 ≤ n then false
  else if n ≤ -64 then fill
  else if 0 ≤ n then decide (n ≤ (i : Int)) && x.testBit (i - n.toNat)
  else if (i : Int) - n < 64 then x.testBit (i + (-n).toNat)
  else fill
def mvOf (x : Nat) (n : Int) (fill : Bool) : Nat := ofBits (row (mv x n fill))
theorem mvOf_lt (x : Nat) (n : Int) (fill : Bool) : mvOf x n fill < 18446744073709551616 := ofBits_row_lt _

theorem two64 : (18446744073709551616 : Nat) = 2 ^ 64 := by decide
theorem testBit_high (x i : Nat) (hx : x < 18446744073709551616) (hi : 64 ≤ i) : x.testBit i = false :=
  Nat.testBit_lt_two_pow (Nat.lt_of_lt_of_le (by rw [two64] at hx; exact hx) (Nat.pow_le_pow_right (by omega) hi))

theorem mv_over (x : Nat) (n : Int) (fill : Bool) (h : 64 ≤ n) : mvOf x n fill = 0 :=
  ofBits_row _ _ (by decide) fun i hi => by unfold mv; rw [if_pos h]; simp
theorem mv_under (x : Nat) (n : Int) (h : n ≤ -64) : mvOf x n true = 18446744073709551615 :=
  ofBits_row _ _ (by decide) fun i hi => by
    unfold mv; rw [if_neg (by omega), if_pos h]
    have e : (18446744073709551615 : Nat) = 2 ^ 64 - 1 := by decide
    rw [e, Nat.testBit_two_pow_sub_one]; simp [hi]
theorem mv_under0 (x : Nat) (n : Int) (h : n ≤ -64) : mvOf x n false = 0 :=
  ofBits_row _ _ (by decide) fun i hi => by unfold mv; rw [if_neg (by omega), if_pos h]; simp
theorem mv_left (x : Nat) (n : Nat) (fill : Bool) (h : n < 64) : mvOf x n fill = x * 2 ^ n % 18446744073709551616 :=
  ofBits_row _ _ (Nat.mod_lt _ (by decide)) fun i hi => by
    unfold mv; rw [if_neg (by omega), if_neg (by omega), if_pos (by omega), two64, Nat.testBit_mod_two_pow, Nat.testBit_mul_two_pow]
    simp [hi]
theorem mv_right0 (x : Nat) (n : Nat) (h0 : 0 < n) (h : n < 64) (hx : x < 18446744073709551616) : mvOf x (-(n : Int)) false = x / 2 ^ n :=
  ofBits_row _ _ (Nat.lt_of_le_of_lt (Nat.div_le_self _ _) hx) fun i hi => by
    unfold mv; rw [if_neg (by omega), if_neg (by omega), if_neg (by omega), Nat.testBit_div_two_pow]
    have e : (- -(n : Int)).toNat = n := by omega
    rw [e]
    split
    · rfl
    · rw [testBit_high x _ hx (by omega)]
theorem mv_right1 (x : Nat) (n : Nat) (h0 : 0 < n) (h : n < 64) (hx : x < 18446744073709551616) : mvOf x (-(n : Int)) true = x / 2 ^ n + (18446744073709551616 - 2 ^ (64 - n)) := by
  have hp : 2 ^ (64 - n) * 2 ^ n = 18446744073709551616 := by
    have e : (64 - n) + n = 64 := by omega
    rw [← Nat.pow_add, e]
  have hlt : x / 2 ^ n < 2 ^ (64 - n) := by
    rw [Nat.div_lt_iff_lt_mul (Nat.pow_pos (by omega)), hp]; exact hx
  have hle : 2 ^ (64 - n) ≤ 18446744073709551616 := by rw [two64]; exact Nat.pow_le_pow_right (by omega) (by omega)
  have e2 : 18446744073709551616 - 2 ^ (64 - n) = 2 ^ (64 - n) * (2 ^ n - 1) := by rw [Nat.mul_sub, hp, Nat.mul_one]
  refine ofBits_row _ _ (by omega) fun i hi => ?_
  rw [e2, Nat.add_comm, Nat.testBit_two_pow_mul_add _ hlt]
  unfold mv; rw [if_neg (by omega), if_neg (by omega), if_neg (by omega)]
  have e : (- -(n : Int)).toNat = n := by omega
  rw [e]
  by_cases h1 : i < 64 - n
  · rw [if_pos (by omega), if_pos h1, Nat.testBit_div_two_pow]
  · rw [if_neg (by omega), if_neg h1, Nat.testBit_two_pow_sub_one]
    symm; simp; omega

/-- Shift, as the code has it. -/
def shiftOf (x n : Int) : Int :=
  if 64 ≤ n then 0 else if 0 ≤ n then RowKit.wrap64 (x * 2 ^ n.toNat) else if n ≤ -64 then x / 9223372036854775808 else x / 2 ^ (-n).toNat
def moveOf (x : Nat) (n : Int) : Nat :=
  if 64 ≤ n ∨ n ≤ -64 then 0 else if 0 ≤ n then x * 2 ^ n.toNat % 18446744073709551616 else x / 2 ^ (-n).toNat

theorem move_mv (x : Nat) (n : Int) (hx : x < 18446744073709551616) : moveOf x n = mvOf x n false := by
  unfold moveOf
  by_cases h1 : 64 ≤ n
  · rw [if_pos (Or.inl h1), mv_over x n _ h1]
  · by_cases h2 : n ≤ -64
    · rw [if_pos (Or.inr h2), mv_under0 x n h2]
    · rw [if_neg (by omega)]
      by_cases h3 : 0 ≤ n
      · rw [if_pos h3]
        obtain ⟨m, rfl⟩ := Int.eq_ofNat_of_zero_le h3
        exact (mv_left x m false (by omega)).symm
      · rw [if_neg h3]
        obtain ⟨m, hm⟩ := Int.eq_ofNat_of_zero_le (show 0 ≤ -n by omega)
        obtain rfl : n = -(m : Int) := by omega
        have e : (- -(m : Int)).toNat = m := by omega
        rw [e]
        exact (mv_right0 x m (by omega) (by omega) hx).symm

theorem shift_mv (x n : Int) (h1 : -9223372036854775808 ≤ x) (h2 : x ≤ 9223372036854775807) :
    IntKind.u64.wrap (shiftOf x n) = (mvOf (IntKind.u64.wrap x).toNat n (decide (x < 0)) : Nat) := by
  rw [IntKind.wrap_u64 x]
  unfold shiftOf
  by_cases a1 : 64 ≤ n
  · rw [if_pos a1, mv_over _ n _ a1]; decide
  · rw [if_neg a1]
    by_cases a2 : 0 ≤ n
    · rw [if_pos a2]
      obtain ⟨m, rfl⟩ := Int.eq_ofNat_of_zero_le a2
      rw [mv_left _ m _ (by omega)]
      rw [IntKind.wrap_u64]
      unfold RowKit.wrap64
      rw [Int.toNat_natCast]
      rw [Int.natCast_emod, Int.natCast_mul]
      have e0 : (((x % 18446744073709551616).toNat : Nat) : Int) = x % 18446744073709551616 := by omega
      rw [e0]
      have e1 : ((2 ^ m : Nat) : Int) = 2 ^ m := by simp
      rw [e1]
      have e2 : (x % 18446744073709551616 * 2 ^ m) % (18446744073709551616 : Nat) = (x * 2 ^ m) % 18446744073709551616 := by
        show (x % 18446744073709551616 * 2 ^ m) % 18446744073709551616 = _
        rw [Int.mul_emod, Int.emod_emod, ← Int.mul_emod]
      rw [e2]
      generalize x * 2 ^ m = y
      omega
    · rw [if_neg a2]
      by_cases a3 : n ≤ -64
      · rw [if_pos a3, IntKind.wrap_u64]
        by_cases hx : x < 0
        · simp only [hx, decide_true]
          rw [mv_under _ n a3]; omega
        · simp only [hx, decide_false]
          rw [mv_under0 _ n a3]; omega
      · rw [if_neg a3]
        obtain ⟨m, hm⟩ := Int.eq_ofNat_of_zero_le (show 0 ≤ -n by omega)
        obtain rfl : n = -(m : Int) := by omega
        have e : (- -(m : Int)).toNat = m := by omega
        rw [e]
        by_cases hx : x < 0
        · simp only [hx, decide_true]
          have hX : x % 18446744073709551616 = x + 18446744073709551616 := by omega
          rw [hX]
          obtain ⟨X, hX2⟩ := Int.eq_ofNat_of_zero_le (show 0 ≤ x + 18446744073709551616 by omega)
          rw [hX2, Int.toNat_natCast, mv_right1 X m (by omega) (by omega) (by omega), IntKind.wrap_u64]
          have hx' : x = (X : Int) + (-(2 ^ (64 - m) : Nat) : Int) * (2 ^ m : Nat) := by
            have hp : 2 ^ (64 - m) * 2 ^ m = 18446744073709551616 := by
              have e : (64 - m) + m = 64 := by omega
              rw [← Nat.pow_add, e]
            have : ((2 ^ (64 - m) : Nat) : Int) * ((2 ^ m : Nat) : Int) = 18446744073709551616 := by rw [← Int.natCast_mul, hp]; rfl
            rw [Int.neg_mul, this]
            omega
          have hpos : 0 < 2 ^ m := Nat.pow_pos (by omega)
          have e5 : ((2 : Int) ^ m) = ((2 ^ m : Nat) : Int) := by simp
          rw [e5, hx', Int.add_mul_ediv_right _ _ (by omega)]
          have hle : 2 ^ (64 - m) ≤ 18446744073709551616 := by rw [two64]; exact Nat.pow_le_pow_right (by omega) (by omega)
          have hlt : X / 2 ^ m < 2 ^ (64 - m) := by
            have hp : 2 ^ (64 - m) * 2 ^ m = 18446744073709551616 := by
              have e : (64 - m) + m = 64 := by omega
              rw [← Nat.pow_add, e]
            rw [Nat.div_lt_iff_lt_mul hpos, hp]; omega
          rw [← Int.natCast_ediv]
          generalize X / 2 ^ m = q at *
          generalize 2 ^ (64 - m) = p at *
          omega
        · simp only [hx, decide_false]
          have hX : x % 18446744073709551616 = x := by omega
          rw [hX]
          obtain ⟨X, rfl⟩ := Int.eq_ofNat_of_zero_le (show 0 ≤ x by omega)
          rw [Int.toNat_natCast, mv_right0 X m (by omega) (by omega) (by omega), IntKind.wrap_u64]
          have e5 : ((2 : Int) ^ m) = ((2 ^ m : Nat) : Int) := by simp
          rw [e5, ← Int.natCast_ediv]
          have : X / 2 ^ m ≤ X := Nat.div_le_self _ _
          generalize X / 2 ^ m = q at *
          omega


/-! ### turns -/
theorem rot_or (x k : Nat) (hx : x < 4294967296) (hk : k < 32) : (x * 2 ^ k % 4294967296) ||| (x / 2 ^ (32 - k)) < 4294967296 := by
  have e : (4294967296 : Nat) = 2 ^ 32 := by decide
  have h1 : x / 2 ^ (32 - k) ≤ x := Nat.div_le_self _ _
  rw [e]
  exact Nat.or_lt_two_pow (by rw [← e]; exact Nat.mod_lt _ (by decide)) (by rw [← e]; omega)
def rot (x k : Nat) : Nat := (x * 2 ^ k % 4294967296) ||| (x / 2 ^ (32 - k))
theorem rot_bit (x k i : Nat) (hx : x < 4294967296) (hk : k < 32) (hi : i < 32) : (rot x k).testBit i = x.testBit ((i + (32 - k)) % 32) := by
  have e : (4294967296 : Nat) = 2 ^ 32 := by decide
  unfold rot
  rw [Nat.testBit_or, e, Nat.testBit_mod_two_pow, Nat.testBit_mul_two_pow, Nat.testBit_div_two_pow]
  by_cases h : k ≤ i
  · have h1 : (i + (32 - k)) % 32 = i - k := by omega
    have h2 : x.testBit (i + (32 - k)) = false := Nat.testBit_lt_two_pow (Nat.lt_of_lt_of_le (by rw [e] at hx; exact hx) (Nat.pow_le_pow_right (by omega) (by omega)))
    rw [h1, h2]
    simp [h, hi]
  · have h1 : (i + (32 - k)) % 32 = i + (32 - k) := Nat.mod_eq_of_lt (by omega)
    rw [h1]
    simp [h]
theorem rot_lt (x k : Nat) (hx : x < 4294967296) (hk : k < 32) : rot x k < 4294967296 := rot_or x k hx hk

/-- the reference's list after j steps: bit i of x at place (i + k) mod 32. -/
def tl (x k j : Nat) (p : Nat) : Bool := decide (p < 32) && (decide ((p + (32 - k)) % 32 < j) && x.testBit ((p + (32 - k)) % 32))
theorem tl_start (x k : Nat) : row (fun _ => false) = row (tl x k 0) := row_congr _ _ fun i _ => by simp [tl]
theorem tl_step (x k j : Nat) (hk : k < 32) (hj : j < 32) : (row (tl x k j)).set ((j + k) % 32) (x.testBit j) = row (tl x k (j + 1)) := by
  have hm : ((j + k) % 32 + (32 - k)) % 32 = j := by omega
  refine row_set _ _ _ _ (by omega) ?_ fun i hne _ => ?_
  · unfold tl; rw [hm]; simp; omega
  · unfold tl
    by_cases h32 : i < 32
    · have hne2 : (i + (32 - k)) % 32 ≠ j := by omega
      have : ((i + (32 - k)) % 32 < j + 1) = ((i + (32 - k)) % 32 < j) := by rw [eq_iff_iff]; omega
      simp only [this]
    · simp [h32]
theorem tl_end (x k : Nat) (hx : x < 4294967296) (hk : k < 32) : ofBits (row (tl x k 32)) = rot x k := by
  have h := rot_lt x k hx hk
  refine ofBits_row _ _ (by omega) fun i hi => ?_
  unfold tl
  by_cases h32 : i < 32
  · rw [rot_bit x k i hx hk h32]
    have : (i + (32 - k)) % 32 < 32 := Nat.mod_lt _ (by decide)
    simp [h32, this]
  · have e : (4294967296 : Nat) = 2 ^ 32 := by decide
    have hz : (rot x k).testBit i = false := Nat.testBit_lt_two_pow (Nat.lt_of_lt_of_le (by rw [e] at h; exact h) (Nat.pow_le_pow_right (by omega) (by omega)))
    rw [hz]
    simp [h32]
theorem rot_rot (x k m : Nat) (hx : x < 4294967296) (hk : k < 32) (hm : m < 32) (hkm : (k + m) % 32 = 0) : rot (rot x k) m = x := by
  have e : (4294967296 : Nat) = 2 ^ 32 := by decide
  have h1 := rot_lt x k hx hk
  have h2 := rot_lt _ m h1 hm
  apply Nat.eq_of_testBit_eq
  intro i
  by_cases hi : i < 32
  · rw [rot_bit _ m i h1 hm hi, rot_bit x k _ hx hk (Nat.mod_lt _ (by decide))]
    congr 1
    omega
  · rw [Nat.testBit_lt_two_pow (Nat.lt_of_lt_of_le (by rw [e] at h2; exact h2) (Nat.pow_le_pow_right (by omega) (by omega))),
      Nat.testBit_lt_two_pow (Nat.lt_of_lt_of_le (by rw [e] at hx; exact hx) (Nat.pow_le_pow_right (by omega) (by omega)))]

/-! ### fields -/
def rangeOK (a n : Int) : Bool := decide (0 ≤ a ∧ 0 ≤ n ∧ a ≤ 64 ∧ n ≤ 64 - a)
def fieldOf (x a n : Nat) : Nat := x / 2 ^ a % 2 ^ n
theorem field_list (x a n : Nat) (h : a + n ≤ 64) : ((bitsOf x 64).drop a).take n = bitsOf (x / 2 ^ a) n := by
  apply List.ext_getElem?
  intro i
  rw [List.getElem?_take]
  by_cases hi : i < n
  · rw [if_pos hi, List.getElem?_drop, bitsOf_get _ _ _ (by omega), bitsOf_get _ _ _ hi, Nat.testBit_div_two_pow, Nat.add_comm]
  · rw [if_neg hi, List.getElem?_eq_none (by rw [bitsOf_length]; omega)]
theorem field_mask (x a n : Nat) : (x / 2 ^ a) &&& (2 ^ n - 1) = fieldOf x a n := Nat.and_two_pow_sub_one_eq_mod _ _
theorem fieldOf_le (x a n : Nat) : fieldOf x a n ≤ x := Nat.le_trans (Nat.mod_le _ _) (Nat.div_le_self _ _)

def putBit (x a n v i : Nat) : Bool := if a ≤ i ∧ i < a + n then v.testBit (i - a) else x.testBit i
def putOf (x a n v : Nat) : Nat := ofBits (row (putBit x a n v))
theorem put_start (x a v : Nat) : row x.testBit = row (putBit x a 0 v) := row_congr _ _ fun i _ => by unfold putBit; rw [if_neg (by omega)]
theorem put_step (x a n v : Nat) (h : a + n < 64) : (row (putBit x a n v)).set (a + n) (v.testBit n) = row (putBit x a (n + 1) v) := by
  refine row_set _ _ _ _ h ?_ fun i hne _ => ?_
  · unfold putBit; rw [if_pos (by omega)]; congr 1; omega
  · unfold putBit
    by_cases hc : a ≤ i ∧ i < a + n
    · rw [if_pos hc, if_pos (by omega)]
    · rw [if_neg hc, if_neg (by omega)]
theorem mask_lt (a n : Nat) (h : a + n ≤ 64) : (2 ^ n - 1) * 2 ^ a < 18446744073709551616 := by
  have h1 : 2 ^ n * 2 ^ a ≤ 18446744073709551616 := by rw [← Nat.pow_add, two64]; exact Nat.pow_le_pow_right (by omega) (by omega)
  have h2 : 0 < 2 ^ a := Nat.pow_pos (by omega)
  rw [Nat.sub_mul, Nat.one_mul]
  omega
theorem mask_bit (a n i : Nat) : ((2 ^ n - 1) * 2 ^ a).testBit i = decide (a ≤ i ∧ i < a + n) := by
  rw [Nat.testBit_mul_two_pow, Nat.testBit_two_pow_sub_one, ← Bool.decide_and]
  congr 1
  rw [eq_iff_iff]
  omega
theorem put_mask (x a n v : Nat) (hx : x < 18446744073709551616) (h : a + n ≤ 64) :
    (x &&& (18446744073709551615 - (2 ^ n - 1) * 2 ^ a)) ||| ((v * 2 ^ a % 18446744073709551616) &&& ((2 ^ n - 1) * 2 ^ a)) = putOf x a n v := by
  symm
  have hm := mask_lt a n h
  have e1 : 18446744073709551615 - (2 ^ n - 1) * 2 ^ a = 2 ^ 64 - ((2 ^ n - 1) * 2 ^ a + 1) := by rw [← two64]; omega
  rw [e1]
  refine ofBits_row _ _ ?_ fun i hi => ?_
  · rw [two64]
    exact Nat.or_lt_two_pow (Nat.and_lt_two_pow _ (by have := Nat.two_pow_pos 64; omega)) (Nat.and_lt_two_pow _ (by rw [← two64]; exact hm))
  · rw [Nat.testBit_or, Nat.testBit_and, Nat.testBit_and, Nat.testBit_two_pow_sub_succ (by rw [← two64]; exact hm), mask_bit, two64, Nat.testBit_mod_two_pow, Nat.testBit_mul_two_pow]
    unfold putBit
    by_cases hc : a ≤ i ∧ i < a + n
    · simp [hc, hi]
    · rw [if_neg hc]; simp [hc, hi]
theorem putOf_lt (x a n v : Nat) : putOf x a n v < 18446744073709551616 := ofBits_row_lt _

theorem replicate_row : List.replicate 64 (Value.bool false) = (row (fun _ => false)).map Value.bool := rfl
/-- the list of Move after k steps -/
def ml (x : Nat) (n : Int) (fill : Bool) (k : Nat) (i : Nat) : Bool := decide (i < k) && mv x n fill i
theorem ml_start (x : Nat) (n : Int) (fill : Bool) : row (fun _ => false) = row (ml x n fill 0) := row_congr _ _ fun i _ => by simp [ml]
theorem ml_step (x : Nat) (n : Int) (fill : Bool) (k : Nat) (b : Bool) (hk : k < 64) (hb : mv x n fill k = b) : (row (ml x n fill k)).set k b = row (ml x n fill (k + 1)) := by
  refine row_set _ _ _ _ hk ?_ fun i hne _ => ?_
  · unfold ml; simp [hb]
  · unfold ml
    have : (i < k + 1) = (i < k) := by rw [eq_iff_iff]; omega
    simp only [this]
theorem ml_end (x : Nat) (n : Int) (fill : Bool) : ofBits (row (ml x n fill 64)) = mvOf x n fill := by
  unfold mvOf
  rw [row_congr (ml x n fill 64) (mv x n fill) fun i hi => by simp [ml, hi]]

/-! ### ends and ranges -/
def el (W : Nat) (s : Bool) (k i : Nat) : Bool := decide (i < k) && (!s || decide (i < W - 1))
theorem el_start (W : Nat) (s : Bool) : row (fun _ => false) = row (el W s 0) := row_congr _ _ fun i _ => by simp [el]
theorem el_step (W : Nat) (s : Bool) (k : Nat) (hk : k < 64) : (row (el W s k)).set k (!s || decide (k < W - 1)) = row (el W s (k + 1)) := by
  refine row_set _ _ _ _ hk ?_ fun i hne _ => ?_
  · simp [el]
  · unfold el
    have : (i < k + 1) = (i < k) := by rw [eq_iff_iff]; omega
    simp only [this]
def mostOf (k : Int) : Nat := if widthOf k = 0 then 0 else 2 ^ (if signedOf k = true then widthOf k - 1 else widthOf k) - 1
def leastOf (k : Int) : Int := if widthOf k = 0 then 0 else if signedOf k = true then -(mostOf k : Int) - 1 else 0
theorem el_end (W : Nat) (s : Bool) (h1 : 1 ≤ W) (h2 : W ≤ 64) : ofBits (row (el W s W)) = 2 ^ (if s = true then W - 1 else W) - 1 := by
  refine ofBits_row _ _ ?_ fun i hi => ?_
  · have : 2 ^ (if s = true then W - 1 else W) ≤ 2 ^ 64 := Nat.pow_le_pow_right (by omega) (by split <;> omega)
    have h3 := Nat.two_pow_pos (if s = true then W - 1 else W)
    rw [two64]; omega
  · rw [Nat.testBit_two_pow_sub_one]
    unfold el
    cases s
    · simp
    · simp; omega
def fitsOf (k x : Int) : Bool := decide (widthOf k ≠ 0 ∧ leastOf k ≤ x ∧ (x < 0 ∨ x ≤ (mostOf k : Int)))
theorem ends_0 (k : Int) (h : widthOf k = 0) : mostOf k = 0 ∧ leastOf k = 0 ∧ ∀ x, fitsOf k x = false := by
  refine ⟨by simp [mostOf, h], by simp [leastOf, h], fun x => by simp [fitsOf, h]⟩

end Go.Proofs.YtlbbbafehhdpnaaDoor

namespace Go.Proofs.YtlbbbafehhdpnaaDoor

/-- The groups of seven bits, the lowest first. -/
def vint (u : Nat) : List Int := if u < 128 then [(u : Int)] else ((u % 128 + 128 : Nat) : Int) :: vint (u / 128)
termination_by u
decreasing_by omega

theorem vint_small (u : Nat) (h : u < 128) : vint u = [(u : Int)] := by rw [vint, if_pos h]
theorem vint_big (u : Nat) (h : 128 ≤ u) : vint u = ((u % 128 + 128 : Nat) : Int) :: vint (u / 128) := by rw [vint, if_neg (by omega)]

theorem vint_length (u k : Nat) (h : u < 128 ^ (k + 1)) : (vint u).length ≤ k + 1 := by
  induction k generalizing u with
  | zero => rw [vint_small u (by simpa using h)]; simp
  | succ k ih =>
    by_cases hu : u < 128
    · rw [vint_small u hu]; simp
    · rw [vint_big u (by omega)]
      have : u / 128 < 128 ^ (k + 1) := by rw [Nat.div_lt_iff_lt_mul (by omega), ← Nat.pow_succ]; exact h
      have := ih _ this
      simp only [List.length_cons]; omega
theorem vint_length64 (u : Nat) (h : u < 18446744073709551616) : (vint u).length ≤ 10 :=
  vint_length u 9 (Nat.lt_of_lt_of_le h (by decide))
theorem vint_pos (u : Nat) : 0 < (vint u).length := by
  by_cases hu : u < 128
  · rw [vint_small u hu]; simp
  · rw [vint_big u (by omega)]; simp

/-- the number of a list of groups -/
def hn : List Int → Nat
  | [] => 0
  | c :: r => (c % 128).toNat + 128 * hn r
theorem hn_vint (u : Nat) : hn (vint u) = u := by
  induction u using Nat.strongRecOn with
  | _ u ih =>
    by_cases hu : u < 128
    · rw [vint_small u hu]; simp only [hn]; omega
    · rw [vint_big u (by omega)]
      simp only [hn]
      rw [ih (u / 128) (by omega)]
      omega

/-- all groups but the last have their high bit, the last has none -/
def shaped : List Int → Bool
  | [] => false
  | [c] => decide (0 ≤ c ∧ c < 128)
  | c :: d :: r => decide (128 ≤ c ∧ c < 256) && shaped (d :: r)
theorem shaped_vint (u : Nat) : shaped (vint u) = true := by
  induction u using Nat.strongRecOn with
  | _ u ih =>
    by_cases hu : u < 128
    · rw [vint_small u hu]; simp [shaped]; omega
    · rw [vint_big u (by omega)]
      have h1 := ih (u / 128) (by omega)
      have hp := vint_pos (u / 128)
      generalize vint (u / 128) = l at *
      cases l with
      | nil => simp at hp
      | cons d r => simp only [shaped, h1, Bool.and_true, decide_eq_true_eq]; omega
theorem shaped_pos (l : List Int) (h : shaped l = true) : 0 < l.length := by
  cases l with
  | nil => simp [shaped] at h
  | cons c r => simp
/-- the last group -/
def lastOf (l : List Int) : Int := l.getLastD 0

theorem vint_hn (l : List Int) (hs : shaped l = true) (h : l.length = 1 ∨ lastOf l ≠ 0) : vint (hn l) = l := by
  induction l with
  | nil => simp [shaped] at hs
  | cons c r ih =>
    cases r with
    | nil =>
      simp [shaped] at hs
      simp only [hn]
      rw [vint_small _ (by omega)]
      congr 1
      omega
    | cons d r =>
      simp only [shaped, Bool.and_eq_true, decide_eq_true_eq] at hs
      have h2 : lastOf (d :: r) ≠ 0 := by
        rcases h with h | h
        · simp at h
        · simpa [lastOf] using h
      have := ih hs.2 (Or.inr h2)
      have hpos : 0 < hn (d :: r) := by
        rcases Nat.eq_zero_or_pos (hn (d :: r)) with h0 | h0
        · rw [h0] at this
          rw [vint_small 0 (by omega)] at this
          rw [← this] at h2
          simp [lastOf] at h2
        · exact h0
      show vint ((c % 128).toNat + 128 * hn (d :: r)) = _
      rw [vint_big _ (by omega)]
      congr 1
      · omega
      · have e : ((c % 128).toNat + 128 * hn (d :: r)) / 128 = hn (d :: r) := by omega
        rw [e, this]
theorem vint_canon (u : Nat) : (vint u).length = 1 ∨ lastOf (vint u) ≠ 0 := by
  induction u using Nat.strongRecOn with
  | _ u ih =>
    by_cases hu : u < 128
    · rw [vint_small u hu]; left; rfl
    · right
      rw [vint_big u (by omega)]
      by_cases h2 : u / 128 < 128
      · rw [vint_small _ h2]; simp [lastOf]; omega
      · have := ih (u / 128) (by omega)
        have hb := vint_big (u / 128) (by omega)
        have hp := vint_pos (u / 128 / 128)
        rcases this with h | h
        · rw [hb] at h; simp only [List.length_cons] at h; omega
        · generalize vint (u / 128) = l at *
          cases l with
          | nil => simp at hb
          | cons d r => simpa [lastOf] using h

/-- what the reader answers: the number and how many bytes it takes; (0, 0): there is none. i: the place, acc: what has been read -/
def unvGo : List Int → Nat → Nat → Nat × Nat
  | [], _, _ => (0, 0)
  | c :: r, i, acc =>
    if (i = 9 ∧ 1 < c) ∨ (c = 0 ∧ 0 < i) then (0, 0)
    else if c < 128 then (acc + (c % 128).toNat * 128 ^ i, i + 1)
    else unvGo r (i + 1) (acc + (c % 128).toNat * 128 ^ i)
def unv (l : List Int) : Nat × Nat := unvGo l 0 0

theorem unv_acc_lt (acc i : Nat) (c : Int) (h : acc < 128 ^ i) : acc + (c % 128).toNat * 128 ^ i < 128 ^ (i + 1) := by
  have h1 : (c % 128).toNat ≤ 127 := by omega
  have h2 : (c % 128).toNat * 128 ^ i ≤ 127 * 128 ^ i := Nat.mul_le_mul_right _ h1
  rw [Nat.pow_succ]
  omega

/-- the answer lies within the bytes, and the number within 64 bits -/
theorem unvGo_bound (l : List Int) (i acc : Nat) (hacc : acc < 128 ^ i) (hi : i ≤ 9) (h0 : ∀ c ∈ l, 0 ≤ c) : (unvGo l i acc).1 < 18446744073709551616 ∧ (unvGo l i acc).2 ≤ i + l.length ∧ (unvGo l i acc).2 ≤ 10 := by
  induction l generalizing i acc with
  | nil => simp [unvGo]
  | cons c r ih =>
    unfold unvGo
    split
    · simp
    · rename_i hn
      split
      · refine ⟨?_, by simp, by simp; omega⟩
        show acc + (c % 128).toNat * 128 ^ i < _
        by_cases h9 : i = 9
        · subst h9
          have hc : c ≤ 1 := by omega
          have hc0 := h0 c (by simp)
          have : (c % 128).toNat ≤ 1 := by omega
          have h2 : (c % 128).toNat * 128 ^ 9 ≤ 1 * 128 ^ 9 := Nat.mul_le_mul_right _ this
          have e : (128 : Nat) ^ 9 = 9223372036854775808 := by decide
          rw [e] at hacc h2 ⊢
          omega
        · have := unv_acc_lt acc i c hacc
          refine Nat.lt_of_lt_of_le this (Nat.le_trans (Nat.pow_le_pow_right (by omega) (show i + 1 ≤ 9 by omega)) (by decide))
      · rename_i hc
        have h9 : i ≠ 9 := by
          intro h9
          exact hn (Or.inl ⟨h9, by omega⟩)
        have := ih (i + 1) _ (unv_acc_lt acc i c hacc) (by omega) (fun d hd => h0 d (by simp [hd]))
        refine ⟨this.1, by simp only [List.length_cons]; omega, this.2.2⟩

/-- reading what was written, whatever stands behind it -/
theorem unvGo_vint (u : Nat) (t : List Int) (i acc : Nat) (hi : u * 128 ^ i < 18446744073709551616) (h9 : i ≤ 9) (hz : 0 < i → 0 < u) :
    unvGo (vint u ++ t) i acc = (acc + u * 128 ^ i, i + (vint u).length) := by
  induction u using Nat.strongRecOn generalizing i acc with
  | _ u ih =>
    by_cases hu : u < 128
    · rw [vint_small u hu]
      show unvGo ((u : Int) :: t) i acc = _
      unfold unvGo
      have hn : ¬ ((i = 9 ∧ 1 < (u : Int)) ∨ ((u : Int) = 0 ∧ 0 < i)) := by
        rintro (⟨h9', h1⟩ | ⟨h1, h2⟩)
        · subst h9'
          have e : (128 : Nat) ^ 9 = 9223372036854775808 := by decide
          rw [e] at hi
          omega
        · have := hz h2; omega
      rw [if_neg hn, if_pos (by omega)]
      have e : ((u : Int) % 128).toNat = u := by omega
      rw [e]
      rfl
    · rw [vint_big u (by omega)]
      show unvGo (((u % 128 + 128 : Nat) : Int) :: (vint (u / 128) ++ t)) i acc = _
      unfold unvGo
      have h9' : i ≠ 9 := by
        intro h
        subst h
        have e : (128 : Nat) ^ 9 = 9223372036854775808 := by decide
        rw [e] at hi
        omega
      rw [if_neg (by omega), if_neg (by omega)]
      have hp : 0 < 128 ^ i := Nat.pow_pos (by omega)
      have e1 : (((u % 128 + 128 : Nat) : Int) % 128).toNat = u % 128 := by omega
      have hm : u / 128 * 128 ^ (i + 1) ≤ u * 128 ^ i := by
        rw [Nat.pow_succ, ← Nat.mul_assoc, Nat.mul_right_comm]
        exact Nat.mul_le_mul_right _ (Nat.div_mul_le_self _ _)
      rw [ih (u / 128) (by omega) (i + 1) _ (by omega) (by omega) (fun _ => by omega), e1]
      refine Prod.ext ?_ ?_
      · show acc + u % 128 * 128 ^ i + u / 128 * 128 ^ (i + 1) = acc + u * 128 ^ i
        have e2 : u * 128 ^ i = (u % 128 + 128 * (u / 128)) * 128 ^ i := by rw [Nat.mod_add_div]
        rw [e2, Nat.add_mul, Nat.pow_succ, Nat.mul_comm (128 ^ i) 128, ← Nat.mul_assoc, Nat.mul_comm (u / 128) 128]
        omega
      · simp only [List.length_cons]; omega
theorem unv_vint (u : Nat) (t : List Int) (h : u < 18446744073709551616) : unv (vint u ++ t) = (u, (vint u).length) := by
  have := unvGo_vint u t 0 0 (by simpa using h) (by omega) (by omega)
  simpa [unv] using this

/-! ### the reference's way of reading -/
theorem hn_last (p : List Int) (hp : 0 < p.length) : ∃ m, m < 128 ^ (p.length - 1) ∧ hn p = m + (lastOf p % 128).toNat * 128 ^ (p.length - 1) := by
  induction p with
  | nil => simp at hp
  | cons c r ih =>
    cases r with
    | nil => exact ⟨0, by simp, by simp [hn, lastOf]⟩
    | cons d r =>
      obtain ⟨m, hm, he⟩ := ih (by simp)
      have hl : lastOf (c :: d :: r) = lastOf (d :: r) := by simp [lastOf]
      rw [hl]
      refine ⟨(c % 128).toNat + 128 * m, ?_, ?_⟩
      · simp only [List.length_cons, Nat.add_sub_cancel] at hm ⊢
        rw [Nat.pow_succ]
        have : (c % 128).toNat ≤ 127 := by omega
        omega
      · show (c % 128).toNat + 128 * hn (d :: r) = _
        rw [he]
        simp only [List.length_cons, Nat.add_sub_cancel]
        rw [Nat.pow_succ, Nat.mul_add, Nat.add_assoc]
        congr 2
        rw [← Nat.mul_assoc, Nat.mul_comm 128 (lastOf (d :: r) % 128).toNat, Nat.mul_assoc, Nat.mul_comm 128]
theorem shaped_last (p : List Int) (hs : shaped p = true) : 0 ≤ lastOf p ∧ lastOf p < 128 := by
  induction p with
  | nil => simp [shaped] at hs
  | cons c r ih =>
    cases r with
    | nil => simpa [shaped, lastOf] using hs
    | cons d r =>
      simp only [shaped, Bool.and_eq_true] at hs
      simpa [lastOf] using ih hs.2

theorem unvGo_shaped (p t : List Int) (i acc : Nat) (hs : shaped p = true) (hi : i + p.length ≤ 10) :
    unvGo (p ++ t) i acc = if (i + p.length = 10 ∧ 1 < lastOf p) ∨ (lastOf p = 0 ∧ 1 < i + p.length) then (0, 0) else (acc + hn p * 128 ^ i, i + p.length) := by
  induction p generalizing i acc with
  | nil => simp [shaped] at hs
  | cons c r ih =>
    cases r with
    | nil =>
      simp [shaped] at hs
      show unvGo (c :: t) i acc = _
      unfold unvGo
      have hl : lastOf [c] = c := rfl
      rw [hl]
      simp only [List.length_cons, List.length_nil, Nat.zero_add]
      by_cases h : (i = 9 ∧ 1 < c) ∨ (c = 0 ∧ 0 < i)
      · rw [if_pos h, if_pos (by omega)]
      · rw [if_neg h, if_pos (by omega), if_neg (by omega)]
        simp [hn]
    | cons d r =>
      simp only [shaped, Bool.and_eq_true, decide_eq_true_eq] at hs
      have hl : lastOf (c :: d :: r) = lastOf (d :: r) := by simp [lastOf]
      rw [hl]
      show unvGo (c :: (d :: r ++ t)) i acc = _
      unfold unvGo
      simp only [List.length_cons] at hi
      rw [if_neg (by omega), if_neg (by omega), ih (i + 1) _ hs.2 (by simp only [List.length_cons]; omega)]
      have e1 : i + 1 + (d :: r).length = i + (c :: d :: r).length := by simp only [List.length_cons]; omega
      rw [e1]
      split
      · rfl
      · refine Prod.ext ?_ rfl
        show acc + (c % 128).toNat * 128 ^ i + hn (d :: r) * 128 ^ (i + 1) = acc + ((c % 128).toNat + 128 * hn (d :: r)) * 128 ^ i
        rw [Nat.add_mul, Nat.pow_succ, Nat.mul_comm (128 ^ i) 128, ← Nat.mul_assoc, Nat.mul_comm (hn (d :: r)) 128]
        omega

/-- The reference: at the first group without the high bit the number is written anew and held against what was read. -/
theorem unv_first (p t : List Int) (hs : shaped p = true) (hl : p.length ≤ 10) :
    unv (p ++ t) = if vint (hn p % 18446744073709551616) = p then (hn p % 18446744073709551616, p.length) else (0, 0) := by
  have hpos := shaped_pos p hs
  have hb := shaped_last p hs
  obtain ⟨m, hm, he⟩ := hn_last p hpos
  have h9 : (128 : Nat) ^ 9 = 9223372036854775808 := by decide
  have hlt : (lastOf p % 128).toNat = (lastOf p).toNat := by congr 1; omega
  rw [hlt] at he
  rw [unv, unvGo_shaped p t 0 0 hs (by omega)]
  simp only [Nat.zero_add, Nat.pow_zero, Nat.mul_one]
  have hsmall : ¬ (p.length = 10 ∧ 1 < lastOf p) → hn p < 18446744073709551616 := by
    intro h
    by_cases h10 : p.length = 10
    · have h1 : (lastOf p).toNat ≤ 1 := by omega
      have h2 : (lastOf p).toNat * 128 ^ (p.length - 1) ≤ 1 * 128 ^ (p.length - 1) := Nat.mul_le_mul_right _ h1
      rw [h10] at hm h2 he
      simp only [Nat.reduceSub] at hm h2 he
      rw [h9] at hm h2
      rw [h9] at he
      omega
    · have h1 : hn p < 128 ^ p.length := by
        have h2 : (lastOf p).toNat * 128 ^ (p.length - 1) ≤ 127 * 128 ^ (p.length - 1) := Nat.mul_le_mul_right _ (by omega)
        have e : 128 ^ p.length = 128 ^ (p.length - 1) * 128 := by rw [← Nat.pow_succ]; congr 1; omega
        rw [e, he]
        omega
      have h2 : 128 ^ p.length ≤ 128 ^ 9 := Nat.pow_le_pow_right (by omega) (by omega)
      rw [h9] at h2
      omega
  by_cases hc : (p.length = 10 ∧ 1 < lastOf p) ∨ (lastOf p = 0 ∧ 1 < p.length)
  · rw [if_pos hc, if_neg]
    intro hv
    rcases hc with ⟨h10, h1⟩ | ⟨h1, h2⟩
    · have hh := hn_vint (hn p % 18446744073709551616)
      rw [hv] at hh
      have h2 : 2 * 128 ^ (p.length - 1) ≤ (lastOf p).toNat * 128 ^ (p.length - 1) := Nat.mul_le_mul_right _ (by omega)
      rw [h10] at h2 he
      simp only [Nat.reduceSub] at h2 he
      rw [h9] at h2
      rw [h9] at he
      omega
    · have := vint_canon (hn p % 18446744073709551616)
      rw [hv] at this
      omega
  · rw [if_neg hc]
    have h1 := hsmall (fun h => hc (Or.inl h))
    have h2 : hn p % 18446744073709551616 = hn p := Nat.mod_eq_of_lt h1
    rw [h2, if_pos (vint_hn p hs (by omega))]

theorem unvGo_none (l : List Int) (i acc : Nat) (hi : i ≤ 10) (h : ∀ j c, i + j < 10 → l[j]? = some c → 128 ≤ c) : unvGo l i acc = (0, 0) ∨ i = 10 := by
  induction l generalizing i acc with
  | nil => left; rfl
  | cons c r ih =>
    by_cases h10 : i = 10
    · right; exact h10
    · left
      have hc : 128 ≤ c := h 0 c (by omega) rfl
      unfold unvGo
      by_cases h9 : i = 9
      · rw [if_pos (Or.inl ⟨h9, by omega⟩)]
      · rw [if_neg (by omega), if_neg (by omega)]
        rcases ih (i + 1) (acc + (c % 128).toNat * 128 ^ i) (by omega) (fun j d hj hd => h (j + 1) d (by omega) (by simpa using hd)) with h1 | h1
        · exact h1
        · omega
theorem unv_none (l : List Int) (h : ∀ j c, j < 10 → l[j]? = some c → 128 ≤ c) : unv l = (0, 0) := by
  rcases unvGo_none l 0 0 (by omega) (fun j c hj hc => h j c (by omega) hc) with h1 | h1
  · exact h1
  · omega

/-- a prefix whose groups but the last have the high bit -/
theorem shaped_take (l : List Int) (k : Nat) (hk : k < l.length) (h1 : ∀ j c, j < k → l[j]? = some c → 128 ≤ c ∧ c < 256) (h2 : 0 ≤ l[k] ∧ l[k] < 128) : shaped (l.take (k + 1)) = true := by
  induction k generalizing l with
  | zero =>
    cases l with
    | nil => simp at hk
    | cons c r => simpa [shaped] using h2
  | succ k ih =>
    cases l with
    | nil => simp at hk
    | cons c r =>
      have hk' : k < r.length := by simpa using hk
      have h := ih r hk' (fun j d hj hd => h1 (j + 1) d (by omega) (by simpa using hd)) (by simpa using h2)
      have hc := h1 0 c (by omega) rfl
      cases r with
      | nil => simp at hk'
      | cons d r =>
        simp only [List.take_succ_cons] at h ⊢
        simp only [shaped, h, Bool.and_true, decide_eq_true_eq]
        exact hc

end Go.Proofs.YtlbbbafehhdpnaaDoor
